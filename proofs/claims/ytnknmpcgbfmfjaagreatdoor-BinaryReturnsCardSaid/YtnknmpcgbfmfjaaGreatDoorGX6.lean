/- Plain: no proper beginning of a binary's bytes is a binary's bytes. No conditions. -/
import Derived.Test.YtnknmpcgbfmfjaaGreatDoorGY5

namespace Go.Proofs.YtnknmpcgbfmfjaaGreatDoor
open Go Go.RowKit Go.Joins
set_option linter.unusedSimpArgs false
set_option linter.unusedVariables false

theorem enc_eq_r (b : Bn) (r : List UInt8) : encL b ++ r = txtB BIN ++ (numB b.kind ++ (numB (b.entry + 1) ++ (txtB b.image ++ (numB (b.places.length : Int) ++ (b.places.flatMap plE ++ (numB (b.fix.length : Int) ++ (b.fix.flatMap numB ++ (numB (b.imps.length : Int) ++ (b.imps.flatMap imE ++ (numB (b.exps.length : Int) ++ (b.exps.flatMap exE ++ (numB (b.notes.length : Int) ++ (b.notes.flatMap ntE ++ r))))))))))))) := by
  simp [encL, headE]
theorem all_app_r {hk he : Nat} (b : Bn) (r : List UInt8) (hk1 : ∃ k : Nat, b.kind = k ∧ k ≤ hk ∧ k ≤ 65536) (he1 : ∃ k : Nat, b.entry + 1 = k ∧ k ≤ he ∧ k ≤ 65536) (hi : b.image.size ≤ 65536) (hp : ∀ p ∈ b.places, plOK hk p) (hf : ∀ a ∈ b.fix, fxOK a) (hm : ∀ x ∈ b.imps, imOK x) (hx : ∀ x ∈ b.exps, exOK x) (hn : ∀ x ∈ b.notes, ntOK x)
    (l1 : b.places.length ≤ 65536) (l2 : b.fix.length ≤ 65536) (l3 : b.imps.length ≤ 65536) (l4 : b.exps.length ≤ 65536) (l5 : b.notes.length ≤ 65536) :
    ∃ l, encL b ++ r = txtB BIN ++ l ∧ allS hk he (some l) = (b, some r) := by
  refine ⟨_, enc_eq_r b r, ?_⟩
  obtain ⟨kind, entry, image, places, fix, imps, exps, notes⟩ := b
  simp only at *
  obtain ⟨k, rfl, hk2, hk3⟩ := hk1
  obtain ⟨e, hee, he2, he3⟩ := he1
  have hen : entry = (e : Int) - 1 := by omega
  rw [hee]
  unfold allS bnS
  simp only [numS_app hk2 (by omega : k ≤ 281474976710656), numS_app he2 (by omega : e ≤ 281474976710656), txtS_app hi hi]
  rw [list_app (pl_compl hk) places _ hp l1]
  simp only
  unfold fixS
  rw [list_app fx_compl fix _ hf l2]
  simp only
  unfold impS
  rw [list_app im_compl imps _ hm l3]
  simp only
  unfold expS
  rw [list_app ex_compl exps _ hx l4]
  simp only
  unfold notS
  rw [list_app nt_compl notes _ hn l5]
  rw [hen]
theorem ok_app {b : Bn} (h2 : checkV b = true) (h1 : (encL b).length ≤ 65536) (r : List UInt8) : ∃ l, encL b ++ r = txtB BIN ++ l ∧ allS 65536 65536 (some l) = (b, some r) := by
  have C := check_ok h2
  have hlen : b.fix.length ≤ 65536 ∧ b.imps.length ≤ 65536 ∧ b.exps.length ≤ 65536 := by
    have f1 := flat_ge (enc := numB) (ok := fxOK) (fun x hx => num_pos hx) b.fix C.fx
    have f2 := flat_ge (enc := imE) (ok := imOK) (fun x hx => by unfold imE; have := txt_pos hx.1; simp only [List.flatMap_cons, List.length_append]; omega) b.imps C.im
    have f3 := flat_ge (enc := exE) (ok := exOK) (fun x hx => by unfold exE; have := txt_pos hx.1; simp only [List.flatMap_cons, List.length_append]; omega) b.exps C.ex
    rw [enc_eq] at h1
    simp only [List.length_append] at h1
    omega
  obtain ⟨k, k1, k2, k3⟩ := C.kind
  obtain ⟨e, e1, e2, e3⟩ := C.entry
  exact all_app_r (hk := 65536) (he := 65536) b r ⟨k, k1, by omega, k3⟩ ⟨e, e1, by omega, e3⟩ C.img (fun p hp => by
    obtain ⟨q1, q2, ⟨j, q3, q4, q5⟩, q6⟩ := C.pl p hp
    exact ⟨q1, q2, ⟨j, q3, by omega, q5⟩, q6⟩) C.fx C.im C.ex C.nt C.l1 hlen.1 hlen.2.1 hlen.2.2 C.l5
theorem enc_free {b c : Bn} {r : List UInt8} (hb : checkV b = true) (hbl : (encL b).length ≤ 65536) (hc : checkV c = true) (e : encL c ++ r = encL b) : r = [] := by
  have hcl : (encL c).length ≤ 65536 := by rw [← e, List.length_append] at hbl; omega
  obtain ⟨l1, a1, a2⟩ := ok_app hc hcl r
  obtain ⟨l2, b1, b2⟩ := ok_app hb hbl []
  rw [e] at a1
  rw [List.append_nil] at b1
  have hl : l1 = l2 := List.append_cancel_left (a1.symm.trans b1)
  rw [hl, b2] at a2
  have := (Prod.mk.inj a2).2
  exact (Option.some.inj this).symm
theorem decV_iff (l : List UInt8) (b : Bn) : decV l = some b ↔ l.length ≤ 65536 ∧ checkV b = true ∧ l = encL b := dec_iff (by decide) (by decide) (by decide) l b
theorem dec_prefix {l : List UInt8} {b : Bn} (h : decV l = some b) {k : Nat} (hk : k < l.length) : decV (l.take k) = none := by
  cases hd : decV (l.take k) with
  | none => rfl
  | some c =>
    exfalso
    obtain ⟨h1, h2, h3⟩ := (decV_iff _ _).1 h
    obtain ⟨c1, c2, c3⟩ := (decV_iff _ _).1 hd
    have e : encL c ++ l.drop k = encL b := by rw [← c3, ← h3, List.take_append_drop]
    have := enc_free h2 (by rw [← h3]; exact h1) c2 e
    have hl : (l.drop k).length = 0 := by rw [this]; rfl
    rw [List.length_drop] at hl
    omega
theorem dec_nil : decV [] = none := by
  cases hd : decV [] with
  | none => rfl
  | some c =>
    exfalso
    obtain ⟨h1, h2, h3⟩ := (decV_iff _ _).1 hd
    rw [enc_eq] at h3
    have h4 := congrArg List.length h3
    simp only [List.length_append, List.length_nil] at h4
    have := txt_pos (s := BIN) (by decide)
    omega
theorem dec_enc {l : List UInt8} {b : Bn} (h : decV l = some b) : encV b = (l, 0) ∧ checkV b = true := by
  obtain ⟨h1, h2, h3⟩ := (decV_iff _ _).1 h
  refine ⟨?_, h2⟩
  unfold encV
  rw [if_pos h2, ← h3, if_pos h1]
theorem enc_dec {b : Bn} (h : (encV b).2 = 0) : decV (encV b).1 = some b ∧ checkV b = true := by
  unfold encV at h ⊢
  by_cases hc : checkV b = true
  · rw [if_pos hc] at h ⊢
    by_cases hl : (encL b).length ≤ 65536
    · rw [if_pos hl] at h ⊢
      exact ⟨(decV_iff _ _).2 ⟨hl, hc, rfl⟩, hc⟩
    · rw [if_neg hl] at h; cases h
  · rw [if_neg hc] at h; cases h
theorem enc_err (b : Bn) : ((encV b).2 = 1) ↔ checkV b = false := by
  unfold encV
  by_cases hc : checkV b = true
  · rw [if_pos hc, hc]
    constructor
    · intro h; split at h <;> cases h
    · intro h; cases h
  · rw [if_neg hc]
    exact ⟨fun _ => by simpa using hc, fun _ => rfl⟩
end Go.Proofs.YtnknmpcgbfmfjaaGreatDoor

