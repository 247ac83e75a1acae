/- Small functions of package template and of its reference, on one byte or rune. No conditions. spans: which words it hands on, and where they begin. No conditions but the text's length. -/
import Derived.Test.YtpoelhnceebmkaaGreatDoorGBlk
import Derived.Test.YtpoelhnceebmkaaGreatDoorShelf
import Derived.Laws.Cover4
import Derived.Shelf.Abstract
import Derived.Shelf.RegionOpen
import Derived.OwnWalkIn
import Derived.TacticsInMore
import Derived.LoopNIn
import Derived.LoopIn
import Derived.Sort.LoopGhostIn
import Derived.Sort.CutIn

namespace Go.Proofs.YtpoelhnceebmkaaGreatDoor
open Go Go.RowKit Go.Shelf
set_option linter.unusedSimpArgs false
set_option linter.unusedVariables false

/-- What a byte of a word stands for; 0 for other bytes. -/
def smN (n : Nat) : Nat := if 65 ≤ n ∧ n ≤ 90 then n + 32 else if (97 ≤ n ∧ n ≤ 122) ∨ (48 ≤ n ∧ n ≤ 57) then n else 0
def sm (c : UInt8) : UInt8 := UInt8.ofNat (smN c.toNat)
theorem smN_lt (n : Nat) (h : n < 256) : smN n < 128 := by unfold smN; split <;> (try split) <;> omega
theorem sm_nat (c : UInt8) : (sm c).toNat = smN c.toNat := by
  have := smN_lt c.toNat c.toNat_lt
  simp [sm]; omega
theorem sm_zero (c : UInt8) : sm c = 0 ↔ smN c.toNat = 0 := by
  rw [← sm_nat, ← UInt8.toNat_inj]; rfl
/-- mapped of a rune. -/
def mapR (r : Int) : Int := if 65 ≤ r ∧ r ≤ 90 then r + 32 else if (97 ≤ r ∧ r ≤ 122) ∨ (48 ≤ r ∧ r ≤ 57) then r else -1
theorem mapR_byte (n : Nat) : mapR n = if smN n = 0 then -1 else (smN n : Int) := by
  unfold mapR smN
  by_cases h1 : 65 ≤ n ∧ n ≤ 90
  · rw [if_pos (by omega), if_pos h1, if_neg (by omega)]; omega
  · rw [if_neg (by omega), if_neg h1]
    by_cases h2 : (97 ≤ n ∧ n ≤ 122) ∨ (48 ≤ n ∧ n ≤ 57)
    · rw [if_pos (by omega), if_pos h2, if_neg (by omega)]
    · rw [if_neg (by omega), if_neg h2, if_pos rfl]

set_option maxRecDepth 100000 in
set_option maxHeartbeats 1000000 in
theorem mapped_any (r : Int) (w : World) (h0 : 0 ≤ r) (h1 : r ≤ 1114111) : Calls Tryz.prog 59 #[.int .i32 r] w fun e w' => e = .returned (.int .i32 (mapR r)) ∧ w = w' := by
  unfold mapR
  by_cases a1 : 65 ≤ r
  · by_cases a2 : r ≤ 90
    · rw [if_pos ⟨a1, a2⟩]
      have u1 : IntKind.i32.wrap (r - 65) = r - 65 := IntWalk.i32_in _ (by omega)
      have u2 : IntKind.i32.wrap (r - 65 + 97) = r + 32 := by rw [show r - 65 + 97 = r + 32 by omega]; exact IntWalk.i32_in _ (by omega)
      go_enter Tryz.func59, Tryz.ntmps59
      go_wp2
      go_ret
      exact ⟨rfl, rfl⟩
    · rw [if_neg (by omega)]
      by_cases a3 : 97 ≤ r
      · by_cases a4 : r ≤ 122
        · rw [if_pos (.inl ⟨a3, a4⟩)]
          go_enter Tryz.func59, Tryz.ntmps59
          go_wp2
          go_ret
          exact ⟨rfl, rfl⟩
        · rw [if_neg (by omega)]
          have a5 : ¬ r ≤ 57 := by omega
          have a6 : 48 ≤ r := by omega
          go_enter Tryz.func59, Tryz.ntmps59
          go_wp2
          go_ret
          exact ⟨rfl, rfl⟩
      · rw [if_neg (by omega)]
        have a5 : ¬ r ≤ 57 := by omega
        have a6 : 48 ≤ r := by omega
        go_enter Tryz.func59, Tryz.ntmps59
        go_wp2
        go_ret
        exact ⟨rfl, rfl⟩
  · rw [if_neg (by omega)]
    have a3 : ¬ 97 ≤ r := by omega
    by_cases a6 : 48 ≤ r
    · by_cases a5 : r ≤ 57
      · rw [if_pos (.inr ⟨a6, a5⟩)]
        go_enter Tryz.func59, Tryz.ntmps59
        go_wp2
        go_ret
        exact ⟨rfl, rfl⟩
      · rw [if_neg (by omega)]
        go_enter Tryz.func59, Tryz.ntmps59
        go_wp2
        go_ret
        exact ⟨rfl, rfl⟩
    · rw [if_neg (by omega)]
      go_enter Tryz.func59, Tryz.ntmps59
      go_wp2
      go_ret
      exact ⟨rfl, rfl⟩
set_option maxRecDepth 100000 in
set_option maxHeartbeats 1000000 in
theorem small_any (n : Nat) (hn : n < 256) (w : World) : Calls Tryz.prog 68 #[.int .u8 n] w fun e w' => e = .returned (.int .u8 (smN n)) ∧ w = w' := by
  unfold smN
  have hz : (0 : Int) ≤ (n : Int) := by omega
  by_cases a1 : 65 ≤ n
  · have b1 : (65 : Int) ≤ (n : Int) := by omega
    by_cases a2 : n ≤ 90
    · have b2 : (n : Int) ≤ 90 := by omega
      rw [if_pos ⟨a1, a2⟩]
      have u1 : IntKind.u8.wrap ((n : Int) + 32) = (n : Int) + 32 := IntWalk.u8_in _ (by omega)
      go_enter Tryz.func68, Tryz.ntmps68
      go_wp2
      go_ret
      exact ⟨by simp, rfl⟩
    · have b2 : ¬ (n : Int) ≤ 90 := by omega
      rw [if_neg (by omega)]
      by_cases a3 : 97 ≤ n
      · have b3 : (97 : Int) ≤ (n : Int) := by omega
        by_cases a4 : n ≤ 122
        · have b4 : (n : Int) ≤ 122 := by omega
          rw [if_pos (.inl ⟨a3, a4⟩)]
          go_enter Tryz.func68, Tryz.ntmps68
          go_wp2
          go_ret
          exact ⟨rfl, rfl⟩
        · have b4 : ¬ (n : Int) ≤ 122 := by omega
          rw [if_neg (by omega)]
          have a5 : ¬ (n : Int) ≤ 57 := by omega
          have a6 : (48 : Int) ≤ (n : Int) := by omega
          go_enter Tryz.func68, Tryz.ntmps68
          go_wp2
          go_ret
          exact ⟨rfl, rfl⟩
      · have b3 : ¬ (97 : Int) ≤ (n : Int) := by omega
        rw [if_neg (by omega)]
        have a5 : ¬ (n : Int) ≤ 57 := by omega
        have a6 : (48 : Int) ≤ (n : Int) := by omega
        go_enter Tryz.func68, Tryz.ntmps68
        go_wp2
        go_ret
        exact ⟨rfl, rfl⟩
  · have b1 : ¬ (65 : Int) ≤ (n : Int) := by omega
    rw [if_neg (by omega)]
    have a3 : ¬ (97 : Int) ≤ (n : Int) := by omega
    by_cases a6 : 48 ≤ n
    · have b6 : (48 : Int) ≤ (n : Int) := by omega
      by_cases a5 : n ≤ 57
      · have b5 : (n : Int) ≤ 57 := by omega
        rw [if_pos (.inr ⟨a6, a5⟩)]
        go_enter Tryz.func68, Tryz.ntmps68
        go_wp2
        go_ret
        exact ⟨rfl, rfl⟩
      · have b5 : ¬ (n : Int) ≤ 57 := by omega
        rw [if_neg (by omega)]
        go_enter Tryz.func68, Tryz.ntmps68
        go_wp2
        go_ret
        exact ⟨rfl, rfl⟩
    · have b6 : ¬ (48 : Int) ≤ (n : Int) := by omega
      rw [if_neg (by omega)]
      go_enter Tryz.func68, Tryz.ntmps68
      go_wp2
      go_ret
      exact ⟨rfl, rfl⟩
end Go.Proofs.YtpoelhnceebmkaaGreatDoor

namespace Go.Proofs.YtpoelhnceebmkaaGreatDoor
open Go Go.RowKit Go.Shelf
set_option linter.unusedSimpArgs false
set_option linter.unusedVariables false
attribute [local go_sem] Oper.semAt_some

/-! ### the plain law -/
/-- The words from place i on, where cur (from place f on) has come already. -/
def spF : Nat → Nat → List UInt8 → List UInt8 → List (Nat × List UInt8)
  | _, f, cur, [] => if cur = [] then [] else [(f, cur)]
  | i, f, cur, c :: r => if sm c = 0 then (if cur = [] then [] else [(f, cur)]) ++ spF (i + 1) f [] r else spF (i + 1) (if cur = [] then i else f) (cur ++ [sm c]) r
def spansV (s : ByteArray) : List (Nat × List UInt8) := spF 0 0 [] s.data.toList
theorem encode_ascii (n : Nat) (h : n < 128) : Utf8.encode (n : Int) = S [UInt8.ofNat n] := by
  have hv : Utf8.valid (n : Int) = true := by simp [Utf8.valid]; omega
  unfold Utf8.encode
  simp only [hv, if_true, Int.toNat_natCast]
  rw [if_pos (by omega)]
  rfl
theorem runesBytes_ascii : ∀ (l : List UInt8) (acc : ByteArray), (∀ c ∈ l, c.toNat < 128) → (l.map fun c => ((c.toNat : Nat) : Int)).foldl (fun r n => r ++ Utf8.encode n) acc = acc ++ S l
  | [], acc, _ => by
    apply ByteArray.ext; simp [S]
  | c :: l, acc, h => by
    rw [List.map_cons, List.foldl_cons, encode_ascii _ (h c (by simp)), runesBytes_ascii l _ (fun x hx => h x (by simp [hx]))]
    apply ByteArray.ext
    simp [S]
theorem runesBytes_S (l : List UInt8) (h : ∀ c ∈ l, c.toNat < 128) : runesBytes (l.map fun c => ((c.toNat : Nat) : Int)) = S l := by
  rw [runesBytes, runesBytes_ascii l _ h]
  apply ByteArray.ext; simp [S]
def i32Cells (l : List UInt8) : List Value := l.map fun c => .int .i32 (c.toNat : Nat)
/-- An element as it is handed on. -/
def spEnc (x : Nat × List UInt8) : Array Value := #[.int .i64 x.1, .string (S x.2)]
theorem spF_word {s : ByteArray} {i f : Nat} {cur : List UInt8} (h : i < s.size) (hw : smN s[i].toNat ≠ 0) : spF i f cur (s.data.toList.drop i) = spF (i + 1) (if cur = [] then i else f) (cur ++ [sm s[i]]) (s.data.toList.drop (i + 1)) := by
  have hl : i < s.data.toList.length := by rw [← size_eq]; exact h
  rw [List.drop_eq_getElem_cons hl, spF, ← get_eq s i h, if_neg (fun e => hw ((sm_zero _).1 e))]
theorem spF_gap {s : ByteArray} {i f : Nat} {cur : List UInt8} (h : i < s.size) (hw : smN s[i].toNat = 0) : spF i f cur (s.data.toList.drop i) = (if cur = [] then [] else [(f, cur)]) ++ spF (i + 1) f [] (s.data.toList.drop (i + 1)) := by
  have hl : i < s.data.toList.length := by rw [← size_eq]; exact h
  rw [List.drop_eq_getElem_cons hl, spF, ← get_eq s i h, if_pos ((sm_zero _).2 hw)]
theorem spF_end {s : ByteArray} {f : Nat} {cur : List UInt8} : spF s.size f cur (s.data.toList.drop s.size) = if cur = [] then [] else [(f, cur)] := by
  rw [List.drop_of_length_le (by rw [← size_eq]; exact Nat.le_refl _), spF]
theorem add_none {a : Addr} (h : a.spot = none) (i : Nat) : a.add i = ⟨a.block, a.off + i, none⟩ := by
  unfold Addr.add
  split
  · rename_i h0; subst h0; cases a; simp_all
  · rfl
/-- What has been handed on, and what is to come, at place i (size + 1: all). -/
def SpAt (s : ByteArray) (i f : Nat) (cur : List UInt8) (pre : List (Nat × List UInt8)) : Prop :=
  (i ≤ s.size ∧ pre ++ spF i f cur (s.data.toList.drop i) = spansV s) ∨ (i = s.size + 1 ∧ cur = [] ∧ pre = spansV s)
theorem Tryz.info21 : (Tryz.prog.info? 21).map (fun i => (i.zero, i.size, i.bytes)) = some (some (.int .i32 0), 1, 4) := by kernel_rfl
theorem own_to {w : World} {base e size n n' : Nat} {v : Value} {xs xs' : List Value} (h : w.ownsRow base e size v n xs) (e1 : n = n') (e2 : xs = xs') : w.ownsRow base e size v n' xs' := by subst e1 e2; exact h
theorem own_conv {w : World} {B : Nat} {v : Value} {l : List UInt8} (h : w.ownsRow B 21 1 v l.length (i32Cells l)) (h0 : 0 < l.length) (hc : ∀ c ∈ l, c.toNat < 128) : (convert 87 9 v).run Tryz.prog w = .ok (.string (S l)) w := by
  obtain ⟨g, cap, rfl, _, _⟩ := h.form h0
  have := run_convert_runes (P := Tryz.prog) w 87 9 21 ⟨g, 0, none⟩ l.length cap (l.map fun c => ((c.toNat : Nat) : Int)) (by simp) Tryz.underlying87 Tryz.underlying21 Tryz.underlying9 (fun j hj => by
    have hj' : j < l.length := by simpa using hj
    rw [add_none rfl, Nat.zero_add, h.cellAt j (by omega), i32Cells]
    simp [List.getD, List.getElem?_eq_getElem hj'])
  rw [this, List.take_of_length_le (by simp), runesBytes_S l hc]

theorem new_grown_ {a w : World} (h : New a w) : a.grownBy w none := h.grown_ none
theorem own_row {w : World} {B : Nat} {e : TypeId} {size n : Nat} {v : Value} {xs : List Value} (h : w.ownsRow B e size v n xs) : ∀ r, v.ownBlock = some r → B ≤ r ∧ ∃ c fz, w.heap[r]? = some (.cells c e fz) := fun r hr => by
  refine ⟨(h.lt r hr).1, ?_⟩
  rcases h.2 with ⟨rfl, _⟩ | ⟨g, cap, cur, rfl, _, hg, _⟩
  · simp [Value.ownBlock] at hr
  · simp [Value.ownBlock] at hr
    subst hr
    exact ⟨_, _, hg⟩
theorem own_conv' {w : World} {B k : Nat} {v : Value} {l : List UInt8} (h : w.ownsRow B 21 1 v k (i32Cells l)) (hk : l.length = k) (h0 : 0 < k) (hc : ∀ c ∈ l, c.toNat < 128) : (convert 87 9 v).run Tryz.prog w = .ok (.string (S l)) w := by
  subst hk; exact own_conv h h0 hc
set_option maxRecDepth 100000 in
set_option maxHeartbeats 4000000 in
theorem spans_iter (n : Nat) (s : ByteArray) (N : Nat) (w0 : World) (hN : N < w0.heap.size) (hs0 : s.size ≤ 4294967280) (h1 : w0.cell? ⟨N, 0, none⟩ = some (.string s)) :
    SeqT n Tryz.prog 58 #[.pointer (some ⟨N, 0, none⟩)] spEnc 21 N (N + 1) (spansV s) w0 := by
  intro l J W hW hJ hJT hY h0
  obtain ⟨i0, hi, hz0, hz1, hz2⟩ := info_parts Tryz.info21
  refine callsIn_of_wp Tryz.func58 rfl trivial ?_ rfl
  simp only [Tryz.ntmps58, List.size_toArray, List.length_cons, List.length_nil, Nat.reduceAdd, Nat.reduceSub, Array.replicate_succ, Array.replicate_zero, List.push_toArray, List.append_toArray, List.nil_append, List.cons_append]
  have c1 : W.cell? ⟨N, 0, none⟩ = some (.string s) := (hW.cell (p := ⟨N, 0, none⟩) hN).trans h1
  have HY := Lib.hid hY
  have HJ := Lib.hid hJ
  have HJT := Lib.hid hJT
  clear hY hJ hJT
  gi_wp2
  gi_loopg [3, 4, 5] (s.size + 2) (fun gf v3 v4 v5 wr => ∃ (i f : Nat) (cur : List UInt8) (pre : List (Nat × List UInt8)), v4 = .int .i64 f ∧ v5 = .int .i64 i ∧ i ≤ s.size + 1 ∧ cur.length ≤ i ∧ i + gf ≥ s.size + 2 ∧ wr.ownsRow W.heap.size 21 1 v3 cur.length (i32Cells cur) ∧ W.heap.size ≤ wr.heap.size ∧ wr.cell? ⟨N, 0, none⟩ = some (.string s) ∧ J pre wr ∧ Hid (∀ c ∈ cur, c.toNat < 128) ∧ Hid (SpAt s i f cur pre))
  case atStart => exact ⟨0, 0, [], [], rfl, rfl, by omega, by simp, by omega, World.ownsRow_nil _ _ _ _, Nat.le_refl _, c1, h0, Lib.hid (by simp), Lib.hid (.inl ⟨Nat.zero_le _, rfl⟩)⟩
  case round =>
    obtain ⟨i, f, cur, pre, rfl, rfl, hle, hcl, hgf, own, hsz, d1, hj, HC, H⟩ := hrel
    obtain ⟨k, hk⟩ : ∃ k, cur.length = k := ⟨_, rfl⟩
    rw [hk] at own hcl
    obtain ⟨A9, c9, rfl, h91, h92, _⟩ := own_form own
    have hrest : i ≤ s.size → ∃ gk', gk = gk' + 1 := fun h => ⟨gk - 1, by omega⟩
    by_cases hi1 : i < s.size
    · obtain ⟨gk', rfl⟩ := hrest (by omega)
      have hH : pre ++ spF i f cur (s.data.toList.drop i) = spansV s := by
        rcases H.out with h | h
        · exact h.2
        · omega
      have hn := (s[i]).toNat_lt
      have hm := mapR_byte s[i].toNat
      have hC := Lib.hid (fun w => mapped_any ((s[i].toNat : Nat) : Int) w (by omega) (by omega))
      by_cases hw : smN s[i].toNat = 0
      · rw [if_pos hw] at hm
        rw [hm] at hC
        have hg := spF_gap (f := f) (cur := cur) hi1 hw
        rw [hg] at hH
        by_cases hc0 : cur = []
        · subst hc0
          obtain rfl : k = 0 := hk.symm
          have HN : Hid (SpAt s (i + 1) f [] pre) := Lib.hid (.inl ⟨by omega, by simpa using hH⟩)
          clear hm hg hH hrest hw
          gi_wp2_with (refine ⟨trivial, (by intro h; cases h), ?_⟩; gi_at_call 59; refine (callsIn_wide.2 (hC.out _)).mono ?_; rintro e w' ⟨rfl, rfl⟩)
          refine ⟨(by intro f h; cases h), ?_⟩
          gi_wp2
          gi_roundg gk'
          case rel => exact ⟨i + 1, f, [], pre, rfl, by go_num, by omega, by simp, by omega, World.ownsRow_nil _ _ _ _, by omega, d1, hj, Lib.hid (by simp), HN⟩
          case measure => omega
        · rw [if_neg hc0, ← List.append_assoc] at hH
          have hpx : (pre ++ [(f, cur)]) <+: spansV s := ⟨_, hH⟩
          have HN : Hid (SpAt s (i + 1) f [] (pre ++ [(f, cur)])) := Lib.hid (.inl ⟨by omega, hH⟩)
          clear hm hg hH hrest hw
          have hcp0 : 0 < cur.length := List.length_pos_iff.2 hc0
          have hcp : 0 < k := by omega
          have hcp' : (0 : Int) < (k : Int) := by omega
          have hconv := own_conv' own hk hcp HC.out
          have HK := Lib.hid hk
          clear hk hcp0 hc0
          obtain ⟨fn, tm, ac, bo, hy, hR⟩ := HY.out pre (f, cur) wr hpx hj
          simp only [spEnc] at hy hR
          gi_wp2_with (refine ⟨trivial, (by intro h; cases h), ?_⟩; gi_at_call 59; refine (callsIn_wide.2 (hC.out _)).mono ?_; rintro e w' ⟨rfl, rfl⟩)
          refine ⟨(by intro h; cases h), hR.mono ?_⟩
          rintro e W2 ⟨rfl, hj2, hk2⟩
          have e1 := (World.cell?_of_block (a := ⟨N, 0, none⟩) (hk2.block N (by omega) (by omega))).trans d1
          have hz2' := hk2.size
          gi_wp2
          gi_roundg gk'
          case rel => exact ⟨i + 1, f, [], pre ++ [(f, cur)], rfl, by go_num, by omega, by simp, by omega, World.ownsRow_nil _ _ _ _, by omega, e1, hj2, Lib.hid (by simp), HN⟩
          case measure => omega
      · rw [if_neg hw] at hm
        rw [hm] at hC
        have hg := spF_word (f := f) (cur := cur) hi1 hw
        rw [hg] at hH
        have hlt := smN_lt s[i].toNat (by omega)
        have hsm : ((sm s[i]).toNat : Int) = (smN s[i].toNat : Int) := by rw [sm_nat]
        have hsc : (sm s[i]).toNat < 128 := by rw [sm_nat]; exact hlt
        have HC2 : Hid (∀ c ∈ cur ++ [sm s[i]], c.toNat < 128) := Lib.hid (fun c hc => by
          rcases List.mem_append.1 hc with h | h
          · exact HC.out c h
          · obtain rfl := List.mem_singleton.1 h
            exact hsc)
        have hcells : i32Cells (cur ++ [sm s[i]]) = i32Cells cur ++ [.int .i32 (smN s[i].toNat : Nat)] := by simp [i32Cells, sm_nat]
        have HN : Hid (SpAt s (i + 1) (if cur = [] then i else f) (cur ++ [sm s[i]]) pre) := Lib.hid (.inl ⟨by omega, hH⟩)
        generalize smN s[i].toNat = m at *
        generalize sm s[i] = sc at *
        have hm0 : (0 : Int) ≤ (m : Int) := by omega
        have HCE := Lib.hid hcells
        clear hm hg hH hrest hw hsm hsc hcells
        by_cases hc0 : cur = []
        · subst hc0
          obtain rfl : k = 0 := hk.symm
          rw [if_pos rfl] at HN
          gi_wp2_with (first | (refine ⟨trivial, (by intro h; cases h), ?_⟩; gi_at_call 59; refine (callsIn_wide.2 (hC.out _)).mono ?_; rintro e w' ⟨rfl, rfl⟩) | (gi_at_builtin; refine wpListIn_append_own _ rfl _ _ 87 rfl W.heap.size 21 i0 (.int .i32 0) 1 4 Tryz.underlying87 hi hz0 hz1 hz2 rfl (by decide) _ _ _ rfl (own.alloc _) ⟨wr.heap.size, 0, none⟩ 1 1 [.int .i32 m] rfl rfl ?c1 ?c2 ?c3 ?c4 ?c5 ?_))
          case c1 => exact cell_one_new _ _ _
          case c2 => simp [Value.oneCell']
          case c3 => simp [maxLen]; try omega
          case c4 => omega
          case c5 => simp; omega
          intro v' w2 hown2 hg2 _
          have hj2 := HJT.out _ _ _ _ (HJ.out _ _ _ none hj (new_grown_ ((New.refl wr).alloc (.cells #[.int .i32 m] 21))) (fun r e => by cases e)) hg2 (own_row (own.alloc (.cells #[.int .i32 m] 21)))
          have e1 : w2.cell? ⟨N, 0, none⟩ = some (.string s) := hg2.cell ((World.cell?_alloc_lt wr _ ⟨N, 0, none⟩ (World.block_lt_of_cell? wr _ d1)).trans d1) (fun e => by have := (own.lt N e.symm).1; have := hW.size; omega)
          have hz9 := hg2.size
          simp at hz9
          gi_wp2
          gi_roundg gk'
          case rel => exact ⟨i + 1, i, _, pre, rfl, by go_num, by omega, by (simp <;> omega), by omega, own_to hown2 (by (simp <;> omega)) HCE.out.symm, by omega, e1, hj2, HC2, HN⟩
          case measure => omega
        · rw [if_neg hc0] at HN
          have hcp0 : 0 < cur.length := List.length_pos_iff.2 hc0
          have hcp : 0 < k := by omega
          have hcp2 : ((k : Int) == 0) = false := beq_eq_false_iff_ne.2 (by omega)
          have hcp3 : ¬ (k : Int) = 0 := by omega
          have HK := hk
          clear hcp0 hc0
          gi_wp2_with (first | (refine ⟨trivial, (by intro h; cases h), ?_⟩; gi_at_call 59; refine (callsIn_wide.2 (hC.out _)).mono ?_; rintro e w' ⟨rfl, rfl⟩) | (gi_at_builtin; refine wpListIn_append_own _ rfl _ _ 87 rfl W.heap.size 21 i0 (.int .i32 0) 1 4 Tryz.underlying87 hi hz0 hz1 hz2 rfl (by decide) _ _ _ rfl (own.alloc _) ⟨wr.heap.size, 0, none⟩ 1 1 [.int .i32 m] rfl rfl ?c1 ?c2 ?c3 ?c4 ?c5 ?_))
          case c1 => exact cell_one_new _ _ _
          case c2 => simp [Value.oneCell']
          case c3 => simp [maxLen]; try omega
          case c4 => omega
          case c5 => simp; omega
          intro v' w2 hown2 hg2 _
          have hj2 := HJT.out _ _ _ _ (HJ.out _ _ _ none hj (new_grown_ ((New.refl wr).alloc (.cells #[.int .i32 m] 21))) (fun r e => by cases e)) hg2 (own_row (own.alloc (.cells #[.int .i32 m] 21)))
          have e1 : w2.cell? ⟨N, 0, none⟩ = some (.string s) := hg2.cell ((World.cell?_alloc_lt wr _ ⟨N, 0, none⟩ (World.block_lt_of_cell? wr _ d1)).trans d1) (fun e => by have := (own.lt N e.symm).1; have := hW.size; omega)
          have hz9 := hg2.size
          simp at hz9
          gi_wp2
          gi_roundg gk'
          case rel => exact ⟨i + 1, f, _, pre, rfl, by go_num, by omega, by (simp <;> omega), by omega, own_to hown2 (by (simp <;> omega)) HCE.out.symm, by omega, e1, hj2, HC2, HN⟩
          case measure => omega
    · by_cases hi2 : i = s.size
      · obtain ⟨gk', rfl⟩ := hrest (by omega)
        have hH : pre ++ spF i f cur (s.data.toList.drop i) = spansV s := by
          rcases H.out with h | h
          · exact h.2
          · omega
        subst hi2
        rw [spF_end] at hH
        by_cases hc0 : cur = []
        · subst hc0
          have HN : Hid (SpAt s (s.size + 1) f [] pre) := Lib.hid (.inr ⟨rfl, rfl, by simpa using hH⟩)
          obtain rfl : k = 0 := hk.symm
          clear hH hrest
          gi_wp2_with (fail)
          refine ⟨(by intro f h; cases h), ?_⟩
          gi_wp2
          gi_roundg gk'
          case rel => exact ⟨s.size + 1, f, [], pre, rfl, by go_num, by omega, by simp, by omega, World.ownsRow_nil _ _ _ _, by omega, d1, hj, Lib.hid (by simp), HN⟩
          case measure => omega
        · rw [if_neg hc0] at hH
          have hpx : (pre ++ [(f, cur)]) <+: spansV s := ⟨[], by simpa using hH⟩
          have HN : Hid (SpAt s (s.size + 1) f [] (pre ++ [(f, cur)])) := Lib.hid (.inr ⟨rfl, rfl, hH⟩)
          clear hH hrest
          have hcp0 : 0 < cur.length := List.length_pos_iff.2 hc0
          have hcp : 0 < k := by omega
          have hcp' : (0 : Int) < (k : Int) := by omega
          have hconv := own_conv' own hk hcp HC.out
          have HK := Lib.hid hk
          clear hk hcp0 hc0
          obtain ⟨fn, tm, ac, bo, hy, hR⟩ := HY.out pre (f, cur) wr hpx hj
          simp only [spEnc] at hy hR
          gi_wp2_with (fail)
          refine ⟨(by intro h; cases h), hR.mono ?_⟩
          rintro e W2 ⟨rfl, hj2, hk2⟩
          have e1 := (World.cell?_of_block (a := ⟨N, 0, none⟩) (hk2.block N (by omega) (by omega))).trans d1
          have hz2' := hk2.size
          gi_wp2
          gi_roundg gk'
          case rel => exact ⟨s.size + 1, f, [], pre ++ [(f, cur)], rfl, by go_num, by omega, by simp, by omega, World.ownsRow_nil _ _ _ _, by omega, e1, hj2, Lib.hid (by simp), HN⟩
          case measure => omega
      · obtain rfl : i = s.size + 1 := by omega
        have hH : pre = spansV s := by
          rcases H.out with h | h
          · omega
          · exact h.2.2
        have HF := Lib.hid hH
        clear hH hrest
        gi_wp2
        go_end0
        refine ⟨⟨_, rfl⟩, ?_⟩
        rw [← HF.out]
        exact hj
end Go.Proofs.YtpoelhnceebmkaaGreatDoor

