/- binary.placed: which places are right. No conditions but the strings' own lengths. -/
import Derived.Test.YtnjampfhkojbnaaGreatDoorGH
import Derived.Maps.RangeWalk

namespace Go.Proofs.YtnjampfhkojbnaaGreatDoor
open Go Go.RowKit Go.Joins
set_option linter.unusedSimpArgs false
set_option linter.unusedVariables false

def SzP (l : List PlD) : Prop := ∀ p ∈ l, p.obj.size ≤ 1000000 ∧ p.sym.size ≤ 1000000
theorem placedGo_at {img : ByteArray} {l : List PlD} {i e : Nat} {seen : List (ByteArray × ByteArray)} {p : PlD} (h : l[i]? = some p) :
    placedGo img (l.drop i) e seen = if seenB seen p.obj p.sym = false ∧ placeOK img e p = true then placedGo img (l.drop (i + 1)) (up4 e + p.size.toNat) ((p.obj, p.sym) :: seen) else none := by
  obtain ⟨hi, he⟩ := List.getElem?_eq_some_iff.1 h
  rw [List.drop_eq_getElem_cons hi, placedGo, he]
def keysD (seen : List (ByteArray × ByteArray)) : List Lit := seen.map fun q => keyD q.1 q.2
theorem keys_iff {seen : List (ByteArray × ByteArray)} {o s : ByteArray} (h : ∀ q ∈ seen, q.1.size ≤ 1000000 ∧ q.2.size ≤ 1000000) (ho : o.size ≤ 1000000) (hs : s.size ≤ 1000000) : seenB seen o s = true ↔ keyD o s ∈ keysD seen := by
  rw [seenB_iff, keysD, List.mem_map]
  constructor
  · intro hm; exact ⟨_, hm, rfl⟩
  · rintro ⟨⟨a, b⟩, hm, e⟩
    have hq := h _ hm
    obtain ⟨rfl, rfl⟩ := keyD_inj (by simp only [maxLen]; simp at hq; omega) (by simp only [maxLen]; simp at hq; omega) (by simp only [maxLen]; omega) (by simp only [maxLen]; omega) e
    exact hm
set_option maxRecDepth 100000 in
set_option maxHeartbeats 8000000 in
theorem placed_any (b : Bn) (h : BH) (w : World) (hr : BRd w b h) (hz : SzP b.places) (hi : b.image.size ≤ 1000000) (hl : b.places.length ≤ 1000000) (hE : Env w) :
    Calls Tryz.prog 78 #[.agg (bcells b h)] w fun e w' => e = .returned (.bool (placedV b)) ∧ New w w' := by
  obtain ⟨kind, entry, image, places, fix, imps, exps, notes⟩ := b
  obtain ⟨a1, c1, a2, c2, a3, c3, a4, c4, a5, c5⟩ := h
  simp only [bcells] at hr hi hz hl ⊢
  have hv : placedV ⟨kind, entry, image, places, fix, imps, exps, notes⟩ = (decide (1 ≤ places.length) && decide (places.length ≤ 128) && decide (image.size ≤ 65536) && decide (placedGo image places 0 [] = some image.size)) := rfl
  rw [hv]
  obtain ⟨cells, hcells⟩ : ∃ c : Array Value, c = #[.int .i64 kind, .int .i64 entry, .string image, .slice a1 places.length c1, .slice a2 fix.length c2, .slice a3 imps.length c3, .slice a4 exps.length c4, .slice a5 notes.length c5] := ⟨_, rfl⟩
  have hR := hr.r1
  simp only at hR
  clear hv hr
  generalize fix.length = n2 at *
  generalize imps.length = n3 at *
  generalize exps.length = n4 at *
  generalize notes.length = n5 at *
  obtain ⟨n, hn⟩ : ∃ n, places.length = n := ⟨_, rfl⟩
  rw [hn] at hR hl ⊢
  have HN := Lib.hid hn
  have HR := Lib.hid hR
  have HZ := Lib.hid hz
  have HE := Lib.hid hE
  have B1 := Blk.made w 28 #[.int .i64 kind, .int .i64 entry, .string image, .slice a1 n c1, .slice a2 n2 c2, .slice a3 n3 c3, .slice a4 n4 c4, .slice a5 n5 c5]
  have hn1 := (New.refl w).alloc (.cells #[.int .i64 kind, .int .i64 entry, .string image, .slice a1 n c1, .slice a2 n2 c2, .slice a3 n3 c3, .slice a4 n4 c4, .slice a5 n5 c5] 28)
  clear hcells cells hR hz hE hn
  by_cases g1 : 1 ≤ n ∧ n ≤ 128 ∧ image.size ≤ 65536
  · obtain ⟨g1, g2, g3⟩ := g1
    have d1 : (decide (1 ≤ n) && decide (n ≤ 128) && decide (image.size ≤ 65536)) = true := by simp [g1, g2, g3]
    rw [d1, Bool.true_and]
    have t1 : ¬ (n : Int) < 1 := by omega
    have t2 : ¬ (128 : Int) < (n : Int) := by omega
    have t3 : ¬ (65536 : Int) < (image.size : Int) := by omega
    have hmm := @run_makeMap Tryz.prog
    obtain ⟨R, hR9⟩ : ∃ R, decide (placedGo image places 0 [] = some image.size) = R := ⟨_, rfl⟩
    rw [hR9]
    have HRR := Lib.hid hR9
    clear d1 hR9
    go_enter Tryz.func78, Tryz.ntmps78
    go_wp2
    have hz0 : (New.refl w).alloc (.cells #[.int .i64 kind, .int .i64 entry, .string image, .slice a1 n c1, .slice a2 n2 c2, .slice a3 n3 c3, .slice a4 n4 c4, .slice a5 n5 c5] 28) = (New.refl w).alloc _ := rfl
    obtain ⟨w1, hw1⟩ : ∃ x, x = w.alloc (.cells #[.int .i64 kind, .int .i64 entry, .string image, .slice a1 n c1, .slice a2 n2 c2, .slice a3 n3 c3, .slice a4 n4 c4, .slice a5 n5 c5] 28) := ⟨_, rfl⟩
    rw [← hw1] at B1 hn1 ⊢
    have hs1 : w1.heap.size = w.heap.size + 1 := by rw [hw1]; simp
    have K1 : KSet Tryz.prog 167 4 (w1.alloc (.map #[] 0)) (w.heap.size + 1) 0 (keysD []) := by rw [← hs1]; exact KSet.made w1
    have hn2 := hn1.alloc (.map #[] 0)
    have B2 := B1.alloc (.map #[] 0)
    clear hz0 hw1 hs1 B1 hn1
    go_loopw [4, 31] (fun v4 v31 wr => ∃ (i e : Nat) (seen : List (ByteArray × ByteArray)), v31 = .int .i64 i ∧ v4 = .int .i64 e ∧ i ≤ n ∧ e ≤ image.size ∧ KSet Tryz.prog 167 4 wr (w.heap.size + 1) i (keysD seen) ∧ New w wr ∧ Blk wr w.heap.size 28 #[.int .i64 kind, .int .i64 entry, .string image, .slice a1 n c1, .slice a2 n2 c2, .slice a3 n3 c3, .slice a4 n4 c4, .slice a5 n5 c5] ∧ Hid (∀ q ∈ seen, q.1.size ≤ 1000000 ∧ q.2.size ≤ 1000000) ∧ Hid (placedGo image (places.drop i) e seen = placedGo image places 0 [])) (fun _ v31 _ => n - (intOf v31).toNat)
    case atStart => exact ⟨0, 0, [], rfl, rfl, by omega, by omega, K1, hn2, B2, Lib.hid (fun q hq => by cases hq), Lib.hid rfl⟩
    case round =>
      clear K1 hn2 B2
      obtain ⟨i, e, seen, rfl, rfl, hi9, he9, KS, hnr, BR, HSZ, HGo⟩ := hrel
      by_cases hlt : i < n
      · obtain ⟨bk, o, rfl, hbk, p, hp, hcell⟩ := rd_row (f := plC) (k := 5) (fun _ => rfl) HN.out (HR.out.below hnr) hlt
        obtain ⟨z1, z2⟩ := HZ.out p (List.mem_of_getElem? hp)
        have hgo := placedGo_at (img := image) (e := e) (seen := seen) hp
        rw [HGo.out] at hgo
        have HG := Lib.hid hgo
        have HK := Lib.hid (keys_iff (o := p.obj) (s := p.sym) HSZ.out z1 z2)
        obtain ⟨po, ps, pk, pa, pz⟩ := p
        have q0 := hcell 0 (.string po) (by omega) rfl
        have q1 := hcell 1 (.string ps) (by omega) rfl
        have q2 := hcell 2 (.int .i64 pk) (by omega) rfl
        have q3 := hcell 3 (.int .i64 pa) (by omega) rfl
        have q4 := hcell 4 (.int .i64 pz) (by omega) rfl
        simp only [Nat.add_zero] at q0
        rw [← Nat.add_assoc] at q1 q2 q3 q4
        simp only at z1 z2 hgo HK
        have kN := keyN po ps (by simp only [maxLen]; omega) (by simp only [maxLen]; omega)
        have nA := ((New.refl wr).alloc (.cells #[.string po, .string ps, .int .i64 pk, .int .i64 pa, .int .i64 pz] 52)).alloc (.cells #[.string po, .string ps] 167)
        have KA := KS.new nA
        have BP := Blk.made wr 52 #[.string po, .string ps, .int .i64 pk, .int .i64 pa, .int .i64 pz]
        clear hcell hgo hp
        obtain ⟨u4, hu4⟩ : ∃ u, up4 e = u := ⟨_, rfl⟩
        have hue : u4 ≤ e + 3 ∧ e ≤ u4 := by rw [← hu4]; unfold up4; omega
        have w1 : IntKind.i64.wrap ((e : Int) + 3) = (e : Int) + 3 := IntWalk.i64_in _ (by omega)
        have w2 : IntKind.i64.wrap (((e : Int) + 3) / 4 * 4) = (u4 : Int) := by rw [← hu4, IntWalk.i64_in _ (by omega)]; unfold up4; omega
        by_cases hok : seenB seen po ps = false ∧ placeOK image e ⟨po, ps, pk, pa, pz⟩ = true
        · have hG := HG.out
          rw [if_pos hok, hu4] at hG
          obtain ⟨s0, s1⟩ := hok
          have HG2 := Lib.hid hG
          unfold placeOK at s1
          simp only [Bool.and_eq_true, decide_eq_true_eq, hu4] at s1
          obtain ⟨⟨⟨⟨⟨⟨s1, s2⟩, s3⟩, s4⟩, s5⟩, s6⟩, s7⟩ := s1
          have s8 : ¬ (8192 : Int) < pz := by omega
          have s9 : (pa == (u4 : Int)) = true := beq_iff_eq.2 s5
          have s10 : ¬ (image.size : Int) < (u4 : Int) + pz := by omega
          have pz0 : 0 ≤ pz := by
            unfold kindOK at s3
            simp only [Bool.or_eq_true, Bool.and_eq_true, decide_eq_true_eq] at s3
            omega
          have w3 : IntKind.i64.wrap ((u4 : Int) + pz) = (u4 : Int) + pz := IntWalk.i64_in _ (by omega)
          obtain ⟨zn, hzn⟩ : ∃ k : Nat, pz = (k : Int) := ⟨pz.toNat, by omega⟩
          have hle1 : e ≤ u4 := hue.2
          have hle2 : u4 ≤ image.size := by omega
          have hle3 : (e : Int) ≤ (u4 : Int) := by omega
          have hle4 : (u4 : Int) ≤ (image.size : Int) := by omega
          have htr : Lib.trimB (image.extract e u4).data.toList 0 = [] := (trim_nil _ _).2 s7
          have HTR := Lib.hid (fun w => Tryz.strings_Trim_one (image.extract e u4) 0 (by decide) w (by simp; omega))
          rw [htr] at HTR
          have HA1 := Lib.hid (fun w h => named_any po w (by omega) h)
          rw [s1] at HA1
          have HA2 := Lib.hid (fun w => name_any ps w (by omega))
          rw [s2] at HA2
          have HKF : Hid ((false : Bool) = true ↔ keyD po ps ∈ keysD seen) := Lib.hid (by rw [← s0]; exact HK.out)
          subst hzn s5
          have klt := KS.lt
          have kne : some wr.heap.size ≠ some (w.heap.size + 1) := fun q => by have := Option.some.inj q; omega
          have kne2 : some w.heap.size ≠ some (w.heap.size + 1) := fun q => by have := Option.some.inj q; omega
          have kle : ∀ q, some (w.heap.size + 1) = some q → w.heap.size ≤ q := fun q hq => by have := Option.some.inj hq; omega
          have hz4 : u4 + zn ≤ image.size := by omega
          clear s7 htr hu4 s0 s1 s2 HK
          unfold kindOK at s3
          simp only at s3
          simp only [Bool.or_eq_true, Bool.and_eq_true, decide_eq_true_eq, beq_iff_eq] at s3
          rcases s3 with ⟨s3, s11⟩ | ⟨⟨s3, s11⟩, s12⟩
          · subst s3
            go_wp2_with (first
              | (at_mapUpdate; refine wpList_kput _ ktN rfl (.tmp 117) (.tmp 118) (.const (.bool true)) (Or.inr rfl) (w.heap.size + 1) i (keysD seen) rfl (KS.new ((nA.trans n1).trans n2 |>.trans n3)) (by simp only [maxLen]; omega) (.agg #[.string po, .string ps]) (keyD po ps) kN rfl rfl ?_; intro wz KZ hgz; have f8 := hgz.cell f7 kne)
              | (go_at_call 110; (with_reducible refine (HTR.out _).mono ?_); rintro e w3 ⟨rfl, hw⟩; have n3 : New w2 w3 := (by rcases hw with hw | hw <;> (rw [hw]; first | exact New.refl _ | exact (New.refl _).drew)); have f5 := ((BQ.new n2).new n3).cell' 0 _ rfl; have f6 := ((BQ.new n2).new n3).cell' 1 _ rfl; have f7 := ((BP1.new n2).new n3).cell' 4 _ rfl)
              | (go_at_call 109; (with_reducible refine (HA2.out _).mono ?_); rintro e w2 ⟨rfl, n2⟩; have f1 := (BP1.new n2).cell' 4 _ rfl; have f2 := (BP1.new n2).cell' 3 _ rfl; have f3 := (BR1.new n2).cell' 2 _ rfl; have f4 := (BQ.new n2).cell' 0 _ rfl)
              | (go_at_call 108; (with_reducible refine (HA1.out _ (HE.out.new (hnr.trans nA))).mono ?_); rintro e w1 ⟨rfl, n1⟩; have BP1 := (BP.alloc (.cells #[.string po, .string ps] 167)).new n1; have BQ := (by have q := Blk.made (wr.alloc (.cells #[.string po, .string ps, .int .i64 1, .int .i64 (u4 : Nat), .int .i64 (zn : Nat)] 52)) 167 #[.string po, .string ps]; rw [World.size_alloc] at q; exact q.new n1); have BR1 := (BR.new nA).new n1; have f0 := BP1.cell' 1 _ rfl)
              | (at_lookup; refine wpList_klook _ ktN rfl (.tmp 66) (.tmp 67) rfl (w.heap.size + 1) i (keysD seen) rfl KA (.agg #[.string po, .string ps]) (keyD po ps) kN false HKF.out rfl ?_))
            have hnz : New w wz := Below.grown ((hnr.trans nA).trans n1 |>.trans n2 |>.trans n3) hgz (by have h1 := hnr.size; have h2 := nA.size; have h3 := n1.size; have h4 := n2.size; have h5 := n3.size; omega) kle
            have BZ := ((BR1.new n2).new n3).grown hgz kne2
            go_roundw
            case rel => exact ⟨i + 1, u4 + zn, (po, ps) :: seen, by go_num, by go_num, by omega, by omega, KZ, hnz, BZ, Lib.hid (fun q hq => by
              rcases List.mem_cons.1 hq with rfl | hq
              · exact ⟨z1, z2⟩
              · exact HSZ.out q hq), Lib.hid HG2.out.symm⟩
            case measure => simp [intOf]; omega
          · subst s3
            go_wp2_with (first
              | (at_mapUpdate; refine wpList_kput _ ktN rfl (.tmp 117) (.tmp 118) (.const (.bool true)) (Or.inr rfl) (w.heap.size + 1) i (keysD seen) rfl (KS.new ((nA.trans n1).trans n2 |>.trans n3)) (by simp only [maxLen]; omega) (.agg #[.string po, .string ps]) (keyD po ps) kN rfl rfl ?_; intro wz KZ hgz; have f8 := hgz.cell f7 kne)
              | (go_at_call 110; (with_reducible refine (HTR.out _).mono ?_); rintro e w3 ⟨rfl, hw⟩; have n3 : New w2 w3 := (by rcases hw with hw | hw <;> (rw [hw]; first | exact New.refl _ | exact (New.refl _).drew)); have f5 := ((BQ.new n2).new n3).cell' 0 _ rfl; have f6 := ((BQ.new n2).new n3).cell' 1 _ rfl; have f7 := ((BP1.new n2).new n3).cell' 4 _ rfl)
              | (go_at_call 109; (with_reducible refine (HA2.out _).mono ?_); rintro e w2 ⟨rfl, n2⟩; have f1 := (BP1.new n2).cell' 4 _ rfl; have f2 := (BP1.new n2).cell' 3 _ rfl; have f3 := (BR1.new n2).cell' 2 _ rfl; have f4 := (BQ.new n2).cell' 0 _ rfl)
              | (go_at_call 108; (with_reducible refine (HA1.out _ (HE.out.new (hnr.trans nA))).mono ?_); rintro e w1 ⟨rfl, n1⟩; have BP1 := (BP.alloc (.cells #[.string po, .string ps] 167)).new n1; have BQ := (by have q := Blk.made (wr.alloc (.cells #[.string po, .string ps, .int .i64 2, .int .i64 (u4 : Nat), .int .i64 (zn : Nat)] 52)) 167 #[.string po, .string ps]; rw [World.size_alloc] at q; exact q.new n1); have BR1 := (BR.new nA).new n1; have f0 := BP1.cell' 1 _ rfl)
              | (at_lookup; refine wpList_klook _ ktN rfl (.tmp 66) (.tmp 67) rfl (w.heap.size + 1) i (keysD seen) rfl KA (.agg #[.string po, .string ps]) (keyD po ps) kN false HKF.out rfl ?_))
            have hnz : New w wz := Below.grown ((hnr.trans nA).trans n1 |>.trans n2 |>.trans n3) hgz (by have h1 := hnr.size; have h2 := nA.size; have h3 := n1.size; have h4 := n2.size; have h5 := n3.size; omega) kle
            have BZ := ((BR1.new n2).new n3).grown hgz kne2
            go_roundw
            case rel => exact ⟨i + 1, u4 + zn, (po, ps) :: seen, by go_num, by go_num, by omega, by omega, KZ, hnz, BZ, Lib.hid (fun q hq => by
              rcases List.mem_cons.1 hq with rfl | hq
              · exact ⟨z1, z2⟩
              · exact HSZ.out q hq), Lib.hid HG2.out.symm⟩
            case measure => simp [intOf]; omega
        · have hG := HG.out
          rw [if_neg hok] at hG
          have hRf : R = false := by rw [← HRR.out, hG]; rfl
          subst hRf
          have HNO : Hid (seenB seen po ps = false → namedV po = true → nameV ps = true → kindOK ⟨po, ps, pk, pa, pz⟩ = true → pz ≤ 8192 → pa = (u4 : Int) → (u4 : Int) + pz ≤ (image.size : Int) → zeroB image e u4 = true → False) := Lib.hid (fun x1 x2 x3 x4 x5 x6 x7 x8 => hok ⟨x1, by
            unfold placeOK
            simp only [Bool.and_eq_true, decide_eq_true_eq, hu4]
            exact ⟨⟨⟨⟨⟨⟨x2, x3⟩, x4⟩, x5⟩, x6⟩, x7⟩, x8⟩⟩)
          have klt := KS.lt
          have HA1 := Lib.hid (fun w h => named_any po w (by omega) h)
          have HA2 := Lib.hid (fun w => name_any ps w (by omega))
          have HKF : Hid (seenB seen po ps = true ↔ keyD po ps ∈ keysD seen) := Lib.hid HK.out
          clear hok hG HG HK
          generalize seenB seen po ps = b0 at *
          generalize namedV po = b1 at *
          generalize nameV ps = b2 at *
          cases b0
          · by_cases hk : kindOK ⟨po, ps, pk, pa, pz⟩ = true
            · have hk2 := hk
              unfold kindOK at hk2
              simp only [Bool.or_eq_true, Bool.and_eq_true, decide_eq_true_eq, beq_iff_eq] at hk2
              have hpz : 0 ≤ pz := by omega
              have HKK := Lib.hid hk
              clear hk
              rcases hk2 with ⟨rfl, k2⟩ | ⟨⟨rfl, k2⟩, k3⟩
              all_goals
                by_cases m1 : (8192 : Int) < pz
                · go_wp2_with (first
                  | (go_at_call 109; (with_reducible refine (HA2.out _).mono ?_); rintro e w2 ⟨rfl, n2⟩; have f1 := (BP1.new n2).cell' 4 _ rfl; have f2 := (BP1.new n2).cell' 3 _ rfl; have f3 := (BR1.new n2).cell' 2 _ rfl)
                  | (go_at_call 108; (with_reducible refine (HA1.out _ (HE.out.new (hnr.trans nA))).mono ?_); rintro e w1 ⟨rfl, n1⟩; have BP1 := (BP.alloc (.cells #[.string po, .string ps] 167)).new n1; have BR1 := (BR.new nA).new n1; have f0 := BP1.cell' 1 _ rfl)
                  | (at_lookup; refine wpList_klook _ ktN rfl (.tmp 66) (.tmp 67) rfl (w.heap.size + 1) i (keysD seen) rfl KA (.agg #[.string po, .string ps]) (keyD po ps) kN false HKF.out rfl ?_))
                  all_goals (go_ret; first | exact ⟨rfl, hnr.trans nA⟩ | exact ⟨rfl, (hnr.trans nA).trans n1⟩ | exact ⟨rfl, ((hnr.trans nA).trans n1).trans n2⟩)
                · by_cases m2 : pa = (u4 : Int)
                  · subst m2
                    have m3 : ((u4 : Int) == (u4 : Int)) = true := beq_self_eq_true _
                    have w3 : IntKind.i64.wrap ((u4 : Int) + pz) = (u4 : Int) + pz := IntWalk.i64_in _ (by omega)
                    by_cases m4 : (image.size : Int) < (u4 : Int) + pz
                    · go_wp2_with (first
                      | (go_at_call 109; (with_reducible refine (HA2.out _).mono ?_); rintro e w2 ⟨rfl, n2⟩; have f1 := (BP1.new n2).cell' 4 _ rfl; have f2 := (BP1.new n2).cell' 3 _ rfl; have f3 := (BR1.new n2).cell' 2 _ rfl)
                      | (go_at_call 108; (with_reducible refine (HA1.out _ (HE.out.new (hnr.trans nA))).mono ?_); rintro e w1 ⟨rfl, n1⟩; have BP1 := (BP.alloc (.cells #[.string po, .string ps] 167)).new n1; have BR1 := (BR.new nA).new n1; have f0 := BP1.cell' 1 _ rfl)
                      | (at_lookup; refine wpList_klook _ ktN rfl (.tmp 66) (.tmp 67) rfl (w.heap.size + 1) i (keysD seen) rfl KA (.agg #[.string po, .string ps]) (keyD po ps) kN false HKF.out rfl ?_))
                      all_goals (go_ret; first | exact ⟨rfl, hnr.trans nA⟩ | exact ⟨rfl, (hnr.trans nA).trans n1⟩ | exact ⟨rfl, ((hnr.trans nA).trans n1).trans n2⟩)
                    · obtain ⟨zn, hzn⟩ : ∃ k : Nat, pz = (k : Int) := ⟨pz.toNat, by omega⟩
                      subst hzn
                      have hzf : zeroB image e u4 = true → b1 = true → b2 = true → False := fun x8 x2 x3 => HNO.out rfl x2 x3 HKK.out (by omega) rfl (by omega) x8
                      have HZF := Lib.hid hzf
                      have hle1 : e ≤ u4 := hue.2
                      have hle2 : u4 ≤ image.size := by omega
                      have hle3 : (e : Int) ≤ (u4 : Int) := by omega
                      have hle4 : (u4 : Int) ≤ (image.size : Int) := by omega
                      have HTR := Lib.hid (fun w => Tryz.strings_Trim_one (image.extract e u4) 0 (by decide) w (by simp; omega))
                      cases b1 <;> cases b2
                      all_goals try (clear HZF hzf HTR; go_wp2_with (first
                        | (go_at_call 109; (with_reducible refine (HA2.out _).mono ?_); rintro e w2 ⟨rfl, n2⟩; have f1 := (BP1.new n2).cell' 4 _ rfl; have f2 := (BP1.new n2).cell' 3 _ rfl; have f3 := (BR1.new n2).cell' 2 _ rfl)
                        | (go_at_call 108; (with_reducible refine (HA1.out _ (HE.out.new (hnr.trans nA))).mono ?_); rintro e w1 ⟨rfl, n1⟩; have BP1 := (BP.alloc (.cells #[.string po, .string ps] 167)).new n1; have BR1 := (BR.new nA).new n1; have f0 := BP1.cell' 1 _ rfl)
                        | (at_lookup; refine wpList_klook _ ktN rfl (.tmp 66) (.tmp 67) rfl (w.heap.size + 1) i (keysD seen) rfl KA (.agg #[.string po, .string ps]) (keyD po ps) kN false HKF.out rfl ?_)); go_ret; first | exact ⟨rfl, hnr.trans nA⟩ | exact ⟨rfl, (hnr.trans nA).trans n1⟩ | exact ⟨rfl, ((hnr.trans nA).trans n1).trans n2⟩)
                      have htn : Lib.trimB (image.extract e u4).data.toList 0 ≠ [] := fun q => HZF.out ((trim_nil _ _).1 q) rfl rfl
                      generalize Lib.trimB (image.extract e u4).data.toList 0 = T at *
                      have hT : (⟨T.toArray⟩ : ByteArray).toList.isEmpty = false := by
                        rw [toList_eq]
                        show T.isEmpty = false
                        cases T with
                        | nil => exact absurd rfl htn
                        | cons x r => rfl
                      obtain ⟨T', hT'⟩ : ∃ x : ByteArray, (⟨T.toArray⟩ : ByteArray) = x := ⟨_, rfl⟩
                      rw [hT'] at HTR hT
                      clear htn hT' hzf HZF
                      go_wp2_with (first
                        | (go_at_call 110; (with_reducible refine (HTR.out _).mono ?_); rintro e w3 ⟨rfl, hw⟩; have n3 : New w2 w3 := (by rcases hw with hw | hw <;> (rw [hw]; first | exact New.refl _ | exact (New.refl _).drew)))
                        | (go_at_call 109; (with_reducible refine (HA2.out _).mono ?_); rintro e w2 ⟨rfl, n2⟩; have f1 := (BP1.new n2).cell' 4 _ rfl; have f2 := (BP1.new n2).cell' 3 _ rfl; have f3 := (BR1.new n2).cell' 2 _ rfl)
                        | (go_at_call 108; (with_reducible refine (HA1.out _ (HE.out.new (hnr.trans nA))).mono ?_); rintro e w1 ⟨rfl, n1⟩; have BP1 := (BP.alloc (.cells #[.string po, .string ps] 167)).new n1; have BR1 := (BR.new nA).new n1; have f0 := BP1.cell' 1 _ rfl)
                        | (at_lookup; refine wpList_klook _ ktN rfl (.tmp 66) (.tmp 67) rfl (w.heap.size + 1) i (keysD seen) rfl KA (.agg #[.string po, .string ps]) (keyD po ps) kN false HKF.out rfl ?_))
                      go_ret
                      exact ⟨rfl, (((hnr.trans nA).trans n1).trans n2).trans n3⟩
                  · have m3 : (pa == (u4 : Int)) = false := beq_eq_false_iff_ne.2 m2
                    go_wp2_with (first
                      | (go_at_call 109; (with_reducible refine (HA2.out _).mono ?_); rintro e w2 ⟨rfl, n2⟩; have f1 := (BP1.new n2).cell' 4 _ rfl; have f2 := (BP1.new n2).cell' 3 _ rfl; have f3 := (BR1.new n2).cell' 2 _ rfl)
                      | (go_at_call 108; (with_reducible refine (HA1.out _ (HE.out.new (hnr.trans nA))).mono ?_); rintro e w1 ⟨rfl, n1⟩; have BP1 := (BP.alloc (.cells #[.string po, .string ps] 167)).new n1; have BR1 := (BR.new nA).new n1; have f0 := BP1.cell' 1 _ rfl)
                      | (at_lookup; refine wpList_klook _ ktN rfl (.tmp 66) (.tmp 67) rfl (w.heap.size + 1) i (keysD seen) rfl KA (.agg #[.string po, .string ps]) (keyD po ps) kN false HKF.out rfl ?_))
                    all_goals (go_ret; first | exact ⟨rfl, hnr.trans nA⟩ | exact ⟨rfl, (hnr.trans nA).trans n1⟩ | exact ⟨rfl, ((hnr.trans nA).trans n1).trans n2⟩)
            · unfold kindOK at hk
              simp only [Bool.or_eq_true, Bool.and_eq_true, decide_eq_true_eq, beq_iff_eq] at hk
              by_cases k1 : pk = 1
              · subst k1
                have k2 : ¬ (2 : Int) ≤ pz := fun q => hk (.inl ⟨rfl, q⟩)
                clear hk
                go_wp2_with (first
                  | (go_at_call 109; (with_reducible refine (HA2.out _).mono ?_); rintro e w2 ⟨rfl, n2⟩; have f1 := (BP1.new n2).cell' 4 _ rfl; have f2 := (BP1.new n2).cell' 3 _ rfl; have f3 := (BR1.new n2).cell' 2 _ rfl)
                  | (go_at_call 108; (with_reducible refine (HA1.out _ (HE.out.new (hnr.trans nA))).mono ?_); rintro e w1 ⟨rfl, n1⟩; have BP1 := (BP.alloc (.cells #[.string po, .string ps] 167)).new n1; have BR1 := (BR.new nA).new n1; have f0 := BP1.cell' 1 _ rfl)
                  | (at_lookup; refine wpList_klook _ ktN rfl (.tmp 66) (.tmp 67) rfl (w.heap.size + 1) i (keysD seen) rfl KA (.agg #[.string po, .string ps]) (keyD po ps) kN false HKF.out rfl ?_))
                all_goals (go_ret; first | exact ⟨rfl, hnr.trans nA⟩ | exact ⟨rfl, (hnr.trans nA).trans n1⟩ | exact ⟨rfl, ((hnr.trans nA).trans n1).trans n2⟩)
              · have k9 : (pk == 1) = false := beq_eq_false_iff_ne.2 k1
                by_cases k2 : pk = 2
                · subst k2
                  by_cases k3 : 0 ≤ pz
                  · have k4 : (pz % 4 == 0) = false := beq_eq_false_iff_ne.2 (fun q => hk (.inr ⟨⟨rfl, k3⟩, q⟩))
                    clear hk
                    go_wp2_with (first
                      | (go_at_call 109; (with_reducible refine (HA2.out _).mono ?_); rintro e w2 ⟨rfl, n2⟩; have f1 := (BP1.new n2).cell' 4 _ rfl; have f2 := (BP1.new n2).cell' 3 _ rfl; have f3 := (BR1.new n2).cell' 2 _ rfl)
                      | (go_at_call 108; (with_reducible refine (HA1.out _ (HE.out.new (hnr.trans nA))).mono ?_); rintro e w1 ⟨rfl, n1⟩; have BP1 := (BP.alloc (.cells #[.string po, .string ps] 167)).new n1; have BR1 := (BR.new nA).new n1; have f0 := BP1.cell' 1 _ rfl)
                      | (at_lookup; refine wpList_klook _ ktN rfl (.tmp 66) (.tmp 67) rfl (w.heap.size + 1) i (keysD seen) rfl KA (.agg #[.string po, .string ps]) (keyD po ps) kN false HKF.out rfl ?_))
                    all_goals (go_ret; first | exact ⟨rfl, hnr.trans nA⟩ | exact ⟨rfl, (hnr.trans nA).trans n1⟩ | exact ⟨rfl, ((hnr.trans nA).trans n1).trans n2⟩)
                  · clear hk
                    go_wp2_with (first
                      | (go_at_call 109; (with_reducible refine (HA2.out _).mono ?_); rintro e w2 ⟨rfl, n2⟩; have f1 := (BP1.new n2).cell' 4 _ rfl; have f2 := (BP1.new n2).cell' 3 _ rfl; have f3 := (BR1.new n2).cell' 2 _ rfl)
                      | (go_at_call 108; (with_reducible refine (HA1.out _ (HE.out.new (hnr.trans nA))).mono ?_); rintro e w1 ⟨rfl, n1⟩; have BP1 := (BP.alloc (.cells #[.string po, .string ps] 167)).new n1; have BR1 := (BR.new nA).new n1; have f0 := BP1.cell' 1 _ rfl)
                      | (at_lookup; refine wpList_klook _ ktN rfl (.tmp 66) (.tmp 67) rfl (w.heap.size + 1) i (keysD seen) rfl KA (.agg #[.string po, .string ps]) (keyD po ps) kN false HKF.out rfl ?_))
                    all_goals (go_ret; first | exact ⟨rfl, hnr.trans nA⟩ | exact ⟨rfl, (hnr.trans nA).trans n1⟩ | exact ⟨rfl, ((hnr.trans nA).trans n1).trans n2⟩)
                · have k8 : (pk == 2) = false := beq_eq_false_iff_ne.2 k2
                  clear hk
                  go_wp2_with (first
                    | (go_at_call 109; (with_reducible refine (HA2.out _).mono ?_); rintro e w2 ⟨rfl, n2⟩; have f1 := (BP1.new n2).cell' 4 _ rfl; have f2 := (BP1.new n2).cell' 3 _ rfl; have f3 := (BR1.new n2).cell' 2 _ rfl)
                    | (go_at_call 108; (with_reducible refine (HA1.out _ (HE.out.new (hnr.trans nA))).mono ?_); rintro e w1 ⟨rfl, n1⟩; have BP1 := (BP.alloc (.cells #[.string po, .string ps] 167)).new n1; have BR1 := (BR.new nA).new n1; have f0 := BP1.cell' 1 _ rfl)
                    | (at_lookup; refine wpList_klook _ ktN rfl (.tmp 66) (.tmp 67) rfl (w.heap.size + 1) i (keysD seen) rfl KA (.agg #[.string po, .string ps]) (keyD po ps) kN false HKF.out rfl ?_))
                  all_goals (go_ret; first | exact ⟨rfl, hnr.trans nA⟩ | exact ⟨rfl, (hnr.trans nA).trans n1⟩ | exact ⟨rfl, ((hnr.trans nA).trans n1).trans n2⟩)
          · clear HNO
            by_cases k1 : pk = 1
            · subst k1
              by_cases k2 : (2 : Int) ≤ pz
              all_goals
                go_wp2_with (first
                  | (go_at_call 109; (with_reducible refine (HA2.out _).mono ?_); rintro e w2 ⟨rfl, n2⟩; have f1 := (BP1.new n2).cell' 4 _ rfl; have f2 := (BP1.new n2).cell' 3 _ rfl; have f3 := (BR1.new n2).cell' 2 _ rfl)
                  | (go_at_call 108; (with_reducible refine (HA1.out _ (HE.out.new (hnr.trans nA))).mono ?_); rintro e w1 ⟨rfl, n1⟩; have BP1 := (BP.alloc (.cells #[.string po, .string ps] 167)).new n1; have BR1 := (BR.new nA).new n1; have f0 := BP1.cell' 1 _ rfl)
                  | (at_lookup; refine wpList_klook _ ktN rfl (.tmp 66) (.tmp 67) rfl (w.heap.size + 1) i (keysD seen) rfl KA (.agg #[.string po, .string ps]) (keyD po ps) kN true HKF.out rfl ?_))
                all_goals (go_ret; first | exact ⟨rfl, hnr.trans nA⟩ | exact ⟨rfl, (hnr.trans nA).trans n1⟩ | exact ⟨rfl, ((hnr.trans nA).trans n1).trans n2⟩)
            · have k9 : (pk == 1) = false := beq_eq_false_iff_ne.2 k1
              by_cases k2 : pk = 2
              · subst k2
                by_cases k3 : 0 ≤ pz
                · cases k4 : (pz % 4 == 0)
                  all_goals
                    go_wp2_with (first
                      | (go_at_call 109; (with_reducible refine (HA2.out _).mono ?_); rintro e w2 ⟨rfl, n2⟩; have f1 := (BP1.new n2).cell' 4 _ rfl; have f2 := (BP1.new n2).cell' 3 _ rfl; have f3 := (BR1.new n2).cell' 2 _ rfl)
                      | (go_at_call 108; (with_reducible refine (HA1.out _ (HE.out.new (hnr.trans nA))).mono ?_); rintro e w1 ⟨rfl, n1⟩; have BP1 := (BP.alloc (.cells #[.string po, .string ps] 167)).new n1; have BR1 := (BR.new nA).new n1; have f0 := BP1.cell' 1 _ rfl)
                      | (at_lookup; refine wpList_klook _ ktN rfl (.tmp 66) (.tmp 67) rfl (w.heap.size + 1) i (keysD seen) rfl KA (.agg #[.string po, .string ps]) (keyD po ps) kN true HKF.out rfl ?_))
                    all_goals (go_ret; first | exact ⟨rfl, hnr.trans nA⟩ | exact ⟨rfl, (hnr.trans nA).trans n1⟩ | exact ⟨rfl, ((hnr.trans nA).trans n1).trans n2⟩)
                · skip
                  go_wp2_with (first
                    | (go_at_call 109; (with_reducible refine (HA2.out _).mono ?_); rintro e w2 ⟨rfl, n2⟩; have f1 := (BP1.new n2).cell' 4 _ rfl; have f2 := (BP1.new n2).cell' 3 _ rfl; have f3 := (BR1.new n2).cell' 2 _ rfl)
                    | (go_at_call 108; (with_reducible refine (HA1.out _ (HE.out.new (hnr.trans nA))).mono ?_); rintro e w1 ⟨rfl, n1⟩; have BP1 := (BP.alloc (.cells #[.string po, .string ps] 167)).new n1; have BR1 := (BR.new nA).new n1; have f0 := BP1.cell' 1 _ rfl)
                    | (at_lookup; refine wpList_klook _ ktN rfl (.tmp 66) (.tmp 67) rfl (w.heap.size + 1) i (keysD seen) rfl KA (.agg #[.string po, .string ps]) (keyD po ps) kN true HKF.out rfl ?_))
                  all_goals (go_ret; first | exact ⟨rfl, hnr.trans nA⟩ | exact ⟨rfl, (hnr.trans nA).trans n1⟩ | exact ⟨rfl, ((hnr.trans nA).trans n1).trans n2⟩)
              · have k8 : (pk == 2) = false := beq_eq_false_iff_ne.2 k2
                go_wp2_with (first
                  | (go_at_call 109; (with_reducible refine (HA2.out _).mono ?_); rintro e w2 ⟨rfl, n2⟩; have f1 := (BP1.new n2).cell' 4 _ rfl; have f2 := (BP1.new n2).cell' 3 _ rfl; have f3 := (BR1.new n2).cell' 2 _ rfl)
                  | (go_at_call 108; (with_reducible refine (HA1.out _ (HE.out.new (hnr.trans nA))).mono ?_); rintro e w1 ⟨rfl, n1⟩; have BP1 := (BP.alloc (.cells #[.string po, .string ps] 167)).new n1; have BR1 := (BR.new nA).new n1; have f0 := BP1.cell' 1 _ rfl)
                  | (at_lookup; refine wpList_klook _ ktN rfl (.tmp 66) (.tmp 67) rfl (w.heap.size + 1) i (keysD seen) rfl KA (.agg #[.string po, .string ps]) (keyD po ps) kN true HKF.out rfl ?_))
                all_goals (go_ret; first | exact ⟨rfl, hnr.trans nA⟩ | exact ⟨rfl, (hnr.trans nA).trans n1⟩ | exact ⟨rfl, ((hnr.trans nA).trans n1).trans n2⟩)
      · obtain rfl : i = n := by omega
        have hG := HGo.out
        rw [List.drop_of_length_le (by rw [HN.out]; exact Nat.le_refl _), placedGo] at hG
        have k1 := BR.cell' 2 _ rfl
        by_cases he : e = image.size
        · have hRt : R = true := by rw [← HRR.out, ← hG, he]; simp
          subst hRt
          have m1 : ((e : Int) == (image.size : Int)) = true := beq_iff_eq.2 (by omega)
          clear he hG
          go_wp2
          go_ret
          exact ⟨rfl, hnr⟩
        · have hRt : R = false := by rw [← HRR.out, ← hG]; simp [he]
          subst hRt
          have m1 : ((e : Int) == (image.size : Int)) = false := beq_eq_false_iff_ne.2 (by omega)
          clear he hG
          go_wp2
          go_ret
          exact ⟨rfl, hnr⟩
  · have d1 : (decide (1 ≤ n) && decide (n ≤ 128) && decide (image.size ≤ 65536)) = false := by
      cases hd : (decide (1 ≤ n) && decide (n ≤ 128) && decide (image.size ≤ 65536)) with
      | false => rfl
      | true =>
        simp only [Bool.and_eq_true, decide_eq_true_eq] at hd
        exact absurd ⟨hd.1.1, hd.1.2, hd.2⟩ g1
    rw [d1, Bool.false_and]
    have k1 := B1.cell' 3 _ rfl
    have k2 := B1.cell' 2 _ rfl
    clear d1
    by_cases t1 : (n : Int) < 1
    · go_enter Tryz.func78, Tryz.ntmps78
      go_wp2
      go_ret
      exact ⟨rfl, hn1⟩
    · by_cases t2 : (128 : Int) < (n : Int)
      · go_enter Tryz.func78, Tryz.ntmps78
        go_wp2
        go_ret
        exact ⟨rfl, hn1⟩
      · have t3 : (65536 : Int) < (image.size : Int) := by omega
        go_enter Tryz.func78, Tryz.ntmps78
        go_wp2
        go_ret
        exact ⟨rfl, hn1⟩
end Go.Proofs.YtnjampfhkojbnaaGreatDoor

