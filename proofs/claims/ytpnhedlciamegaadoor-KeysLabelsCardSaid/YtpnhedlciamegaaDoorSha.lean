/- Package sha. -/
import Derived.Test.YtpnhedlciamegaaDoorLib
set_option linter.all false
set_option linter.unusedSimpArgs false
set_option linter.unnecessarySimpa false
set_option linter.deprecated false
set_option maxRecDepth 100000
set_option linter.unusedVariables false
namespace Go.Proofs.Sep
open Go Go.RowKit

def u32 (i : Int) : Value := .int .u32 i
theorem u32_one (i : Int) : (u32 i).oneCell' = true := rfl
theorem mapu {w : List Int} {j : Nat} (h : j < w.length) : (w.map u32)[j]? = some (u32 (w.getD j 0)) := by
  simp [h]
theorem mapu_set (w : List Int) (j : Nat) (x : Int) : (w.map u32).set j (u32 x) = (w.set j x).map u32 := by rw [List.map_set]
theorem bitI_u64 (op : BinOp) (i j : Int) : 0 ≤ bitI op .u64 i j := by
  unfold bitI
  rw [IntKind.wrap_u64]
  omega

/-! ### bits.RotateLeft32, sha.right -/
def rotS (k : Int) : Int := bitI .and .u64 (IntKind.u64.wrap k) 31
def rotI (x k : Int) : Int := bitI .or .u32 (IntKind.u32.wrap (x * 2 ^ (min (rotS k).toNat IntKind.u32.bits))) (x.fdiv (2 ^ (min (IntKind.u64.wrap (32 - rotS k)).toNat IntKind.u32.bits)))
theorem wrap_u64_nonneg (i : Int) : 0 ≤ IntKind.u64.wrap i := by rw [IntKind.wrap_u64]; omega
theorem bits_RotateLeft32 {x k : Int} : Spec Tryd.prog 117 #[u32 x, .int .i64 k] [] [] (Val (u32 (rotI x k))) := by
  refine Spec.body (args := [u32 x, .int .i64 k]) (n := 17) Tryd.func117 rfl Tryd.ntmps117 (by simp) fun w0 hw0 => ?_
  refine W.seq ?_
  refine W.region ?_
  refine .op (.y (y_assign rfl) ?_)
  refine .nil ?_
  refine W.seq ?_
  refine W.region ?_
  refine .op (.y (y_move rfl) ?_)
  refine .op (.y (y_conv rfl Tryd.underlying3 Tryd.underlying136) ?_)
  refine .op (.y (y_bitI rfl rfl) ?_)
  refine .op (.y (y_assign rfl) ?_)
  refine .nil ?_
  refine W.seq ?_
  refine W.region ?_
  refine .op (.y (y_move rfl) ?_)
  refine .op (.y (y_move rfl) ?_)
  refine .op (.y (y_shl rfl rfl (bitI_u64 _ _ _)) ?_)
  refine .op (.y (y_move rfl) ?_)
  refine .op (.y (y_move rfl) ?_)
  refine .op (.y (y_sub rfl rfl) ?_)
  refine .op (.y (y_shr rfl rfl (wrap_u64_nonneg _)) ?_)
  refine .op (.y (y_bitI rfl rfl) ?_)
  refine .op (.y (y_assign rfl) ?_)
  refine .nil ?_
  refine W.ret ?_
  exact ret1 rfl rfl [] [] ⟨rfl, rfl, rfl⟩ (by simp) (by simp)
def rightI (x n : Int) : Int := rotI x (IntKind.i64.wrap (0 - n))
theorem sha_right {x n : Int} : Spec Tryd.prog 104 #[u32 x, .int .i64 n] [] [] (Val (u32 (rightI x n))) := by
  refine Spec.body (args := [u32 x, .int .i64 n]) (n := 9) Tryd.func104 rfl Tryd.ntmps104 (by simp) fun w0 hw0 => ?_
  refine W.seq ?_
  refine W.region ?_
  refine .op (.y (y_assign rfl) ?_)
  refine .nil ?_
  refine W.seq ?_
  refine W.region ?_
  refine .op (.y (y_move rfl) ?_)
  refine .op (.y (y_move rfl) ?_)
  refine .op (.y (y_neg rfl) ?_)
  refine .op (o_callV (bits_RotateLeft32 (x := x) (k := IntKind.i64.wrap (0 - n))) F.cal117 rfl rfl rfl (by simp) ?_)
  refine .op (.y (y_assign rfl) ?_)
  refine .nil ?_
  refine W.ret ?_
  exact ret1 rfl rfl [] [] ⟨rfl, rfl, rfl⟩ (by simp) (by simp)

/-! ### sha.step -/
def shrI (x : Int) (k : Nat) : Int := x.fdiv (2 ^ (min ((k : Int)).toNat IntKind.u32.bits))
def add32 (a b : Int) : Int := IntKind.u32.wrap (a + b)
abbrev xor32 := bitI .xor .u32
abbrev and32 := bitI .and .u32
abbrev or32 := bitI .or .u32
abbrev not32 (x : Int) := bitI .xor .u32 (if IntKind.u32.signed then -1 else IntKind.u32.max) x
structure S8 where
  a : Int
  b : Int
  c : Int
  d : Int
  e : Int
  f : Int
  g : Int
  h : Int
def S8.list (v : S8) : List Int := [v.a, v.b, v.c, v.d, v.e, v.f, v.g, v.h]
@[reducible] def S8.cells (v : S8) : List Value := [u32 v.a, u32 v.b, u32 v.c, u32 v.d, u32 v.e, u32 v.f, u32 v.g, u32 v.h]
def msgA (w : List Int) (i : Nat) : List Int := w.set (i % 16) (add32 (w.getD (i % 16) 0) (xor32 (xor32 (rightI (w.getD ((i + 1) % 16) 0) 7) (rightI (w.getD ((i + 1) % 16) 0) 18)) (shrI (w.getD ((i + 1) % 16) 0) 3)))
def msgB (w : List Int) (i : Nat) : List Int := w.set (i % 16) (add32 (w.getD (i % 16) 0) (w.getD ((i + 9) % 16) 0))
def msgC (w : List Int) (i : Nat) (y : Int) : List Int := w.set (i % 16) (add32 (w.getD (i % 16) 0) (xor32 (xor32 (rightI y 17) (rightI y 19)) (shrI y 10)))
def msg (w : List Int) (i : Nat) : List Int := if 16 ≤ i then msgC (msgB (msgA w i) i) i (w.getD ((i + 14) % 16) 0) else w
def rndT (v : S8) (k x : Int) : Int :=
  add32 (add32 (add32 (add32 v.h k) x) (xor32 (xor32 (rightI v.e 6) (rightI v.e 11)) (rightI v.e 25))) (or32 (and32 v.e v.f) (and32 (not32 v.e) v.g))
def rndU (v : S8) : Int := add32 (xor32 (xor32 (rightI v.a 2) (rightI v.a 13)) (rightI v.a 22)) (or32 (or32 (and32 v.a v.b) (and32 v.a v.c)) (and32 v.b v.c))
def rnd (v : S8) (k x : Int) : S8 := ⟨add32 (rndT v k x) (rndU v), v.a, v.b, v.c, add32 v.d (rndT v k x), v.e, v.f, v.g⟩
def ksL : List Int := [1116352408, 1899447441, 3049323471, 3921009573, 961987163, 1508970993, 2453635748, 2870763221, 3624381080, 310598401, 607225278, 1426881987, 1925078388, 2162078206, 2614888103, 3248222580, 3835390401, 4022224774, 264347078, 604807628, 770255983, 1249150122, 1555081692, 1996064986, 2554220882, 2821834349, 2952996808, 3210313671, 3336571891, 3584528711, 113926993, 338241895, 666307205, 773529912, 1294757372, 1396182291, 1695183700, 1986661051, 2177026350, 2456956037, 2730485921, 2820302411, 3259730800, 3345764771, 3516065817, 3600352804, 4094571909, 275423344, 430227734, 506948616, 659060556, 883997877, 958139571, 1322822218, 1537002063, 1747873779, 1955562222, 2024104815, 2227730452, 2361852424, 2428436474, 2756734187, 3204031479, 3329325298]
def rounds (w : List Int) (v : S8) : Nat → List Int × S8
  | 0 => (w, v)
  | i + 1 => (msg (rounds w v i).1 i, rnd (rounds w v i).2 (ksL.getD i 0) ((msg (rounds w v i).1 i).getD (i % 16) 0))
def wordsOf (s : List UInt8) : List Int := (List.range 16).map fun i => IntKind.u32.wrap (readBig ((s.drop (4 * i)).take 4))
def S8.add (v h : S8) : S8 := ⟨add32 v.a h.a, add32 v.b h.b, add32 v.c h.c, add32 v.d h.d, add32 v.e h.e, add32 v.f h.f, add32 v.g h.g, add32 v.h h.h⟩
def shaStep (h : S8) (s : List UInt8) : S8 := (rounds (wordsOf s) h 64).2.add h
theorem wordsOf_len (s : List UInt8) : (wordsOf s).length = 16 := by simp [wordsOf]
theorem msg_len {w : List Int} {i : Nat} (h : w.length = 16) : (msg w i).length = 16 := by
  unfold msg
  split <;> simp [msgA, msgB, msgC, h]
theorem rounds_len {w : List Int} {v : S8} (h : w.length = 16) : ∀ i, (rounds w v i).1.length = 16
  | 0 => h
  | i + 1 => msg_len (rounds_len h i)
theorem ksL_get {i : Nat} (h : i < 64) : ((ksL.map u32).take 64)[i]? = some (u32 (ksL.getD i 0)) := by
  rw [List.getElem?_take, if_pos h]
  exact mapu (by have : ksL.length = 64 := rfl
                 omega)
def sumL (v h : List Int) : List Int := List.zipWith add32 v h
theorem u32_fill {l : List Int} {m i : Nat} (hl : l.length = m) (hi : i < m) : ((l.take i ++ List.replicate (m - i) 0).map u32).set i (u32 (l.getD i 0)) = (l.take (i + 1) ++ List.replicate (m - (i + 1)) 0).map u32 := by
  rw [mapu_set, fill_set hl (by rw [List.getElem?_eq_getElem (by omega)]; simp [hl, hi])]
theorem sum_fill {v h : List Int} {m i : Nat} (hv : v.length = m) (hh : h.length = m) (hi : i < m) : (((sumL v h).take i ++ v.drop i).map u32).set i (u32 (add32 (((sumL v h).take i ++ v.drop i).getD i 0) (h.getD i 0))) = (((sumL v h).take (i + 1) ++ v.drop (i + 1)).map u32) := by
  rw [mapu_set]
  congr 1
  have hl : (sumL v h).length = m := by simp [sumL, hv, hh]
  have e1 : ((sumL v h).take i ++ v.drop i).getD i 0 = v.getD i 0 := by
    simp [List.getD_eq_getElem?_getD, List.getElem?_append, hl, Nat.min_eq_left (Nat.le_of_lt hi)]
  have e2 : (sumL v h)[i]? = some (add32 (v.getD i 0) (h.getD i 0)) := by
    simp [sumL, List.getElem?_zipWith, List.getElem?_eq_getElem (show i < v.length by omega), List.getElem?_eq_getElem (show i < h.length by omega)]
  rw [e1]
  refine List.ext_getElem? fun j => ?_
  rw [List.getElem?_set]
  by_cases hj : i = j
  · subst hj
    rw [if_pos rfl, if_pos (by simp [hl, hv]; omega), List.getElem?_append_left (by simp [hl]; omega), List.getElem?_take, if_pos (by omega), e2]
  · rw [if_neg hj, List.getElem?_append, List.getElem?_append, List.length_take, List.length_take, hl, Nat.min_eq_left (by omega), Nat.min_eq_left (by omega)]
    by_cases h1 : j < i
    · rw [if_pos h1, if_pos (by omega), List.getElem?_take, List.getElem?_take, if_pos h1, if_pos (by omega)]
    · rw [if_neg h1, if_neg (by omega), List.getElem?_drop, List.getElem?_drop]
      congr 1
      omega
theorem sha_step {φ : Frag} {h : S8} {s : List UInt8} (hks : Pt φ (ptr 2) (ksL.map u32)) (hs : s.length = 64) : Spec Tryd.prog 88 #[.agg h.cells.toArray, str s] [] [φ] (Val (.agg (shaStep h s).cells.toArray)) := by
  refine Spec.body (args := [.agg h.cells.toArray, str s]) (n := 175) Tryd.func88 rfl Tryd.ntmps88 (by simp) fun w0 hw0 => ?_
  refine W.seq ?_
  refine W.region ?_
  refine .op (o_box rfl (fun b2 hb2 => ?_))
  refine .op (o_alloc F.ze144 (fun b4 hb4 => ?_))
  refine .nil ?_
  refine W.seq ?_
  refine W.region ?_
  refine .op (o_alloc F.ze168 (fun b5 hb5 => ?_))
  refine .nil ?_
  refine W.seq ?_
  refine W.seq ?_
  refine W.region ?_
  refine .op (.y (y_move rfl) ?_)
  refine .nil ?_
  refine W.block ?_
  refine W.loopI (ι := Nat) (fun i => i ≤ 16) (fun i => [(1, str s), (2, ptr b2), (4, ptr b4), (5, ptr b5), (17, .int .i64 (i : Int))]) (fun i => [cel b5 168 (((wordsOf s).take i ++ List.replicate (16 - i) 0).map u32), cel b4 144 (List.replicate 8 (u32 0)), cel b2 144 h.cells]) (fun i => [φ]) (fun i => 16 - i) 0 (by simp)
    ⟨rfl, ⟨rfl, rfl, rfl, rfl, rfl, trivial⟩, at3 0 0 0 rfl rfl rfl, by simp⟩ ?_
  rintro i hG
  try simp only at hG ⊢
  refine W.seq ?_
  refine W.region ?_
  refine .op (.y (y_lssN (j := 16) rfl rfl) ?_)
  refine .nil ?_
  refine W.seq ?_
  refine W.cond rfl (fun hc18 => ?_) (fun hc18 => ?_)
  ·
    try simp only [decide_eq_true_eq, decide_eq_false_iff_not, Bool.not_eq_true', Bool.not_eq_false', Int.ofNat_lt, Int.ofNat_le, Int.not_lt, Nat.not_lt, Int.not_le, Nat.not_le, Int.natCast_inj, ne_eq, Decidable.not_not] at hc18
    have hi' : i < 16 := by simpa using hc18
    refine W.skip ?_
    refine W.seq ?_
    refine W.block ?_
    refine W.seq ?_
    refine W.region ?_
    refine .op (.y (y_move rfl) ?_)
    refine .op (.y (y_assign rfl) ?_)
    refine .nil ?_
    refine W.region ?_
    refine .op (.y (y_move rfl) ?_)
    refine .op (.y (y_move rfl) ?_)
    refine .op (.y (y_move rfl) ?_)
    refine .op (.y (y_mulN (i := 4) rfl rfl (by omega)) ?_)
    refine .op (.y (y_move rfl) ?_)
    refine .op (.y (y_mulN (i := 4) rfl rfl (by omega)) ?_)
    refine .op (.y (y_addN (j := 4) rfl rfl (by omega)) ?_)
    refine .op (.y (y_sslice (i := 4 * i) (j := 4 * i + 4) rfl Tryd.underlying9 rfl rfl (by omega) (by omega)) ?_)
    refine .op (o_callV (octet_ReadBig (l := (s.drop (4 * i)).take (4 * i + 4 - 4 * i)) (by simp; omega)) F.cal51 rfl rfl rfl (by simp) ?_)
    rw [show 4 * i + 4 - 4 * i = 4 from by omega]
    refine .op (.y (y_conv rfl Tryd.underlying22 Tryd.underlying143) ?_)
    refine .op (.y (y_indexA1 rfl rfl Tryd.underlying168 F.sz143 hi') ?_)
    refine .op (o_store 0 rfl rfl rfl rfl (by simp [wordsOf]; omega) F.sz143 ?_)
    refine .nil ?_
    refine W.region ?_
    refine .op (.y (y_addN (j := 1) rfl rfl (by omega)) ?_)
    refine .op (.y (y_move rfl) ?_)
    refine .nil ?_
    have e := u32_fill (wordsOf_len s) hi'
    have e2 : (wordsOf s).getD i 0 = IntKind.u32.wrap (readBig ((s.drop (4 * i)).take 4)) := by simp [wordsOf, hi']
    rw [e2] at e
    exact ⟨i + 1, by first | omega | (simp only; omega), by first | omega | (simp only; omega), rfl, ⟨rfl, rfl, rfl, rfl, rfl, trivial⟩, by rw [← e]; exact at3 0 0 0 rfl rfl rfl, by simp⟩
  ·
    try simp only [decide_eq_true_eq, decide_eq_false_iff_not, Bool.not_eq_true', Bool.not_eq_false', Int.ofNat_lt, Int.ofNat_le, Int.not_lt, Nat.not_lt, Int.not_le, Nat.not_le, Int.natCast_inj, ne_eq, Decidable.not_not] at hc18
    refine W.exit ?_
    have hi' : i = 16 := by have h : ¬ (i < 16) := (by simpa using hc18); omega
    subst hi'
    rw [Nat.sub_self, List.replicate_zero, List.append_nil, List.take_of_length_le (by rw [wordsOf_len]; omega)]
    refine W.seq ?_
    refine W.region ?_
    refine .op (.y (y_loadA 2 rfl rfl (by simp) F.agg144) ?_)
    refine .op (o_alloc F.ze144 (fun b7 hb7 => ?_))
    refine .op (o_storeN (vs := h.cells) 0 rfl rfl rfl rfl (Nat.le_refl 8) (by simp [u32_one]) F.sz144 ?_)
    refine .nil ?_
    refine W.seq ?_
    refine W.seq ?_
    refine W.region ?_
    refine .op (.y (y_loadPA 64 rfl hks (by simp [ksL]) (by simp) F.agg169) ?_)
    refine .op (.y (y_move rfl) ?_)
    refine .nil ?_
    refine W.block ?_
    refine W.loopI (ι := Nat) (fun i => i ≤ 64) (fun i => [(2, ptr b2), (4, ptr b4), (5, ptr b5), (7, ptr b7), (33, .agg ((ksL.map u32).take 64).toArray), (34, .int .i64 (i : Int))]) (fun i => [cel b7 144 (rounds (wordsOf s) h i).2.cells, cel b5 168 ((rounds (wordsOf s) h i).1.map u32), cel b4 144 (List.replicate 8 (u32 0)), cel b2 144 h.cells]) (fun i => []) (fun i => 64 - i) 0 (by simp)
      ⟨rfl, ⟨rfl, rfl, rfl, rfl, rfl, rfl, trivial⟩, ⟨[], List.Perm.refl _⟩, by simp⟩ ?_
    rintro i hG
    try simp only at hG ⊢
    have hwl := rounds_len (v := h) (wordsOf_len s) i
    have hstep : rounds (wordsOf s) h (i + 1) = (msg (rounds (wordsOf s) h i).1 i, rnd (rounds (wordsOf s) h i).2 (ksL.getD i 0) ((msg (rounds (wordsOf s) h i).1 i).getD (i % 16) 0)) := rfl
    generalize hwv : rounds (wordsOf s) h i = wv at *
    obtain ⟨w, v⟩ := wv
    obtain ⟨va, vb, vc, vd, ve, vf, vg, vh⟩ := v
    simp only at hwl hstep ⊢
    refine W.seq ?_
    refine W.region ?_
    refine .op (.y (y_lssN (j := 64) rfl rfl) ?_)
    refine .nil ?_
    refine W.seq ?_
    refine W.cond rfl (fun hc35 => ?_) (fun hc35 => ?_)
    ·
      try simp only [decide_eq_true_eq, decide_eq_false_iff_not, Bool.not_eq_true', Bool.not_eq_false', Int.ofNat_lt, Int.ofNat_le, Int.not_lt, Nat.not_lt, Int.not_le, Nat.not_le, Int.natCast_inj, ne_eq, Decidable.not_not] at hc35
      have hi' : i < 64 := by simpa using hc35
      refine W.skip ?_
      refine W.seq ?_
      refine W.block ?_
      refine W.seq ?_
      refine W.region ?_
      refine .op (.y (y_move rfl) ?_)
      refine .op (.y (y_indexVN rfl rfl Tryd.underlying169 F.sz143 F.sc143 hi' (ksL_get hi')) ?_)
      refine .op (.y (y_assign rfl) ?_)
      refine .op (.y (y_assign rfl) ?_)
      refine .nil ?_
      refine W.seq ?_
      refine W.seq ?_
      refine W.region ?_
      refine .op (.y (y_move rfl) ?_)
      refine .op (.y (y_geqN (j := 16) rfl rfl) ?_)
      refine .nil ?_
      refine W.cond rfl (fun hc39 => ?_) (fun hc39 => ?_)
      ·
        try simp only [decide_eq_true_eq, decide_eq_false_iff_not, Bool.not_eq_true', Bool.not_eq_false', Int.ofNat_lt, Int.ofNat_le, Int.not_lt, Nat.not_lt, Int.not_le, Nat.not_le, Int.natCast_inj, ne_eq, Decidable.not_not] at hc39
        have hge : 16 ≤ i := by simpa using hc39
        have hmsg : msg w i = msgC (msgB (msgA w i) i) i (w.getD ((i + 14) % 16) 0) := by unfold msg; rw [if_pos hge]
        have hlA : (msgA w i).length = 16 := by simp [msgA, hwl]
        have hlB : (msgB (msgA w i) i).length = 16 := by simp [msgB, hlA]
        have hlC : (msgC (msgB (msgA w i) i) i (w.getD ((i + 14) % 16) 0)).length = 16 := by simp [msgC, hlB]
        refine W.seq ?_
        refine W.draw F.mixed (true, [([], []), ([0], [0]), ([1], [1]), ([2], [2]), ([3], [3]), ([], []), ([5], [5]), ([6], [6]), ([7], [7]), ([8], [8]), ([4, 0, 1, 2, 3, 4], [4]), ([9, 10, 0, 1, 2, 3, 4, 5, 6, 7, 8, 9, 10], [9])]) [] (by kernel_rfl) _ _ (Incl.refl _ _) ?_
        refine .takeP 0 rfl (by decide) (y_move rfl) ?_
        refine .takeP 1 rfl (by decide) (y_addN (j := 1) rfl rfl (by omega)) ?_
        refine .takeP 2 rfl (by decide) (y_remN (j := 16) rfl rfl (by omega)) ?_
        refine .takeP 3 rfl (by decide) (y_indexA1 rfl rfl Tryd.underlying168 F.sz143 (Nat.mod_lt _ (by omega))) ?_
        refine .take 4 rfl (by decide) (y_load 1 rfl rfl (mapu (by rw [hwl]; exact Nat.mod_lt _ (by omega))) F.sc143) ?_
        refine .takeP 5 rfl (by decide) (y_move rfl) ?_
        refine .takeP 6 rfl (by decide) (y_addN (j := 14) rfl rfl (by omega)) ?_
        refine .takeP 7 rfl (by decide) (y_remN (j := 16) rfl rfl (by omega)) ?_
        refine .takeP 8 rfl (by decide) (y_indexA1 rfl rfl Tryd.underlying168 F.sz143 (Nat.mod_lt _ (by omega))) ?_
        refine .take 9 rfl (by decide) (y_load 1 rfl rfl (mapu (by rw [hwl]; exact Nat.mod_lt _ (by omega))) F.sc143) ?_
        refine .takeP 10 rfl (by decide) (y_assign rfl) ?_
        refine .takeP 11 rfl (by decide) (y_assign rfl) ?_
        refine .done (by decide) ?_
        refine W.seq ?_
        refine W.draw F.mixed (true, [([], []), ([0], [0]), ([1], [1]), ([2], [2]), ([], []), ([4], [4]), ([], []), ([6, 5], [6]), ([5, 7], [5, 7]), ([], []), ([9], [9]), ([8, 10], [8, 10]), ([3, 11], [3, 11]), ([1, 0, 1, 2, 3, 4, 5, 6, 7, 8, 9, 10, 11, 12], [1]), ([13, 12, 7, 0, 1, 2, 3, 4, 5, 6, 7, 8, 9, 10, 11, 12], [12, 13])]) [14] (by kernel_rfl) _ _ (Incl.refl _ _) ?_
        refine .takeP 0 rfl (by decide) (y_move rfl) ?_
        refine .takeP 1 rfl (by decide) (y_remN (j := 16) rfl rfl (by omega)) ?_
        refine .takeP 2 rfl (by decide) (y_indexA1 rfl rfl Tryd.underlying168 F.sz143 (Nat.mod_lt _ (by omega))) ?_
        refine .take 3 rfl (by decide) (y_load 1 rfl rfl (mapu (by rw [hwl]; exact Nat.mod_lt _ (by omega))) F.sc143) ?_
        refine .takeP 4 rfl (by decide) (y_move rfl) ?_
        refine .takeP 6 rfl (by decide) (y_move rfl) ?_
        refine .takeP 9 rfl (by decide) (y_move rfl) ?_
        refine .takeP 10 rfl (by decide) (y_shr rfl rfl (by first | omega | simp)) ?_
        refine .one 5 (by decide) rfl (o_callV sha_right F.cal104 rfl rfl rfl (by simp) ⟨(by first | exact Incl.refl _ _ | exact ⟨by simp, by simp⟩), ?_⟩)
        refine .one 7 (by decide) rfl (o_callV sha_right F.cal104 rfl rfl rfl (by simp) ⟨(by first | exact Incl.refl _ _ | exact ⟨by simp, by simp⟩), ?_⟩)
        refine .takeP 8 rfl (by decide) (y_bitI rfl rfl) ?_
        refine .takeP 11 rfl (by decide) (y_bitI rfl rfl) ?_
        refine .takeP 12 rfl (by decide) (y_add rfl rfl) ?_
        refine .takeP 13 rfl (by decide) (y_indexA1 rfl rfl Tryd.underlying168 F.sz143 (Nat.mod_lt _ (by omega))) ?_
        refine .sw (by decide) ?_
        refine .one 14 (by decide) rfl (o_store 1 rfl rfl rfl rfl (by simp [hwl]; omega) F.sz143 ⟨Incl.none _ _, ?_⟩)
        refine .done (by decide) ?_
        refine W.seq ?_
        refine W.reO 1 (cel b5 168 ((msgA w i).map u32)) rfl (congrArg (cel b5 168) (mapu_set w (i % 16) _)) ?_
        refine W.draw F.mixed (true, [([], []), ([0], [0]), ([1], [1]), ([2], [2]), ([], []), ([4], [4]), ([5], [5]), ([6], [6]), ([7], [7]), ([3, 8], [3, 8]), ([1, 0, 1, 2, 3, 4, 5, 6, 7, 8, 9], [1]), ([10, 9, 0, 1, 2, 3, 4, 5, 6, 7, 8, 9], [9, 10])]) [11] (by kernel_rfl) _ _ (Incl.refl _ _) ?_
        refine .takeP 0 rfl (by decide) (y_move rfl) ?_
        refine .takeP 1 rfl (by decide) (y_remN (j := 16) rfl rfl (by omega)) ?_
        refine .takeP 2 rfl (by decide) (y_indexA1 rfl rfl Tryd.underlying168 F.sz143 (Nat.mod_lt _ (by omega))) ?_
        refine .take 3 rfl (by decide) (y_load 1 rfl rfl (mapu (by rw [hlA]; exact Nat.mod_lt _ (by omega))) F.sc143) ?_
        refine .takeP 4 rfl (by decide) (y_move rfl) ?_
        refine .takeP 5 rfl (by decide) (y_addN (j := 9) rfl rfl (by omega)) ?_
        refine .takeP 6 rfl (by decide) (y_remN (j := 16) rfl rfl (by omega)) ?_
        refine .takeP 7 rfl (by decide) (y_indexA1 rfl rfl Tryd.underlying168 F.sz143 (Nat.mod_lt _ (by omega))) ?_
        refine .take 8 rfl (by decide) (y_load 1 rfl rfl (mapu (by rw [hlA]; exact Nat.mod_lt _ (by omega))) F.sc143) ?_
        refine .takeP 9 rfl (by decide) (y_add rfl rfl) ?_
        refine .takeP 10 rfl (by decide) (y_indexA1 rfl rfl Tryd.underlying168 F.sz143 (Nat.mod_lt _ (by omega))) ?_
        refine .sw (by decide) ?_
        refine .one 11 (by decide) rfl (o_store 1 rfl rfl rfl rfl (by simp [hlA]; omega) F.sz143 ⟨Incl.none _ _, ?_⟩)
        refine .done (by decide) ?_
        refine W.reO 1 (cel b5 168 ((msgB (msgA w i) i).map u32)) rfl (congrArg (cel b5 168) (mapu_set (msgA w i) (i % 16) _)) ?_
        refine W.draw F.mixed (true, [([], []), ([0], [0]), ([1], [1]), ([2], [2]), ([], []), ([4], [4]), ([], []), ([6, 5], [6]), ([5, 7], [5, 7]), ([], []), ([9], [9]), ([8, 10], [8, 10]), ([3, 11], [3, 11]), ([1, 0, 1, 2, 3, 4, 5, 6, 7, 8, 9, 10, 11, 12], [1]), ([13, 12, 7, 0, 1, 2, 3, 4, 5, 6, 7, 8, 9, 10, 11, 12], [12, 13])]) [14] (by kernel_rfl) _ _ (Incl.refl _ _) ?_
        refine .takeP 0 rfl (by decide) (y_move rfl) ?_
        refine .takeP 1 rfl (by decide) (y_remN (j := 16) rfl rfl (by omega)) ?_
        refine .takeP 2 rfl (by decide) (y_indexA1 rfl rfl Tryd.underlying168 F.sz143 (Nat.mod_lt _ (by omega))) ?_
        refine .take 3 rfl (by decide) (y_load 1 rfl rfl (mapu (by rw [hlB]; exact Nat.mod_lt _ (by omega))) F.sc143) ?_
        refine .takeP 4 rfl (by decide) (y_move rfl) ?_
        refine .takeP 6 rfl (by decide) (y_move rfl) ?_
        refine .takeP 9 rfl (by decide) (y_move rfl) ?_
        refine .takeP 10 rfl (by decide) (y_shr rfl rfl (by first | omega | simp)) ?_
        refine .one 5 (by decide) rfl (o_callV sha_right F.cal104 rfl rfl rfl (by simp) ⟨(by first | exact Incl.refl _ _ | exact ⟨by simp, by simp⟩), ?_⟩)
        refine .one 7 (by decide) rfl (o_callV sha_right F.cal104 rfl rfl rfl (by simp) ⟨(by first | exact Incl.refl _ _ | exact ⟨by simp, by simp⟩), ?_⟩)
        refine .takeP 8 rfl (by decide) (y_bitI rfl rfl) ?_
        refine .takeP 11 rfl (by decide) (y_bitI rfl rfl) ?_
        refine .takeP 12 rfl (by decide) (y_add rfl rfl) ?_
        refine .takeP 13 rfl (by decide) (y_indexA1 rfl rfl Tryd.underlying168 F.sz143 (Nat.mod_lt _ (by omega))) ?_
        refine .sw (by decide) ?_
        refine .one 14 (by decide) rfl (o_store 1 rfl rfl rfl rfl (by simp [hlB]; omega) F.sz143 ⟨Incl.none _ _, ?_⟩)
        refine .done (by decide) ?_
        refine W.seq ?_
        (try refine W.reO 1 (cel b5 168 ((msgC (msgB (msgA w i) i) i (w.getD ((i + 14) % 16) 0)).map u32)) rfl (congrArg (cel b5 168) (mapu_set (msgB (msgA w i) i) (i % 16) _)) ?_)
        (try rw [← hmsg] at hlC)
        (try rw [← hmsg])
        generalize msg w i = w' at *
        refine W.asO [cel b7 144 [u32 va, u32 vb, u32 vc, u32 vd, u32 ve, u32 vf, u32 vg, u32 vh], cel b5 168 (w'.map u32), cel b4 144 (List.replicate 8 (u32 0)), cel b2 144 h.cells] rfl ?_
        refine W.draw F.mixed (true, [([], []), ([0], [0]), ([], []), ([2], [2]), ([1, 0, 1], [1]), ([3, 4, 0, 1, 2, 3, 4], [3])]) [] (by kernel_rfl) _ _ (Incl.refl _ _) ?_
        refine .takeP 0 rfl (by decide) (y_indexA1 (i := 0) rfl rfl Tryd.underlying144 F.sz143 (by omega)) ?_
        refine .take 1 rfl (by decide) (y_load 0 rfl rfl rfl F.sc143) ?_
        refine .takeP 2 rfl (by decide) (y_indexA1 (i := 4) rfl rfl Tryd.underlying144 F.sz143 (by omega)) ?_
        refine .take 3 rfl (by decide) (y_load 0 rfl rfl rfl F.sc143) ?_
        refine .takeP 4 rfl (by decide) (y_assign rfl) ?_
        refine .takeP 5 rfl (by decide) (y_assign rfl) ?_
        refine .done (by decide) ?_
        refine W.seq ?_
        refine W.draw F.mixed (true, [([], []), ([0], [0]), ([], []), ([1, 2], [1, 2]), ([], []), ([4], [4]), ([5], [5]), ([6], [6]), ([3, 7], [3, 7]), ([8, 0, 1, 2, 3, 4, 5, 6, 7, 8], [8])]) [] (by kernel_rfl) _ _ (Incl.refl _ _) ?_
        refine .takeP 0 rfl (by decide) (y_indexA1 (i := 7) rfl rfl Tryd.underlying144 F.sz143 (by omega)) ?_
        refine .take 1 rfl (by decide) (y_load 0 rfl rfl rfl F.sc143) ?_
        refine .takeP 2 rfl (by decide) (y_move rfl) ?_
        refine .takeP 3 rfl (by decide) (y_add rfl rfl) ?_
        refine .takeP 4 rfl (by decide) (y_move rfl) ?_
        refine .takeP 5 rfl (by decide) (y_remN (j := 16) rfl rfl (by omega)) ?_
        refine .takeP 6 rfl (by decide) (y_indexA1 rfl rfl Tryd.underlying168 F.sz143 (Nat.mod_lt _ (by omega))) ?_
        refine .take 7 rfl (by decide) (y_load 1 rfl rfl (mapu (by rw [hlC]; exact Nat.mod_lt _ (by omega))) F.sc143) ?_
        refine .takeP 8 rfl (by decide) (y_add rfl rfl) ?_
        refine .takeP 9 rfl (by decide) (y_assign rfl) ?_
        refine .done (by decide) ?_
        refine W.seq ?_
        refine W.region ?_
        refine .op (.y (y_move rfl) ?_)
        refine .op (.y (y_move rfl) ?_)
        refine .op (o_callV sha_right F.cal104 rfl rfl rfl (by simp) ?_)
        refine .op (.y (y_move rfl) ?_)
        refine .op (o_callV sha_right F.cal104 rfl rfl rfl (by simp) ?_)
        refine .op (.y (y_bitI rfl rfl) ?_)
        refine .op (.y (y_move rfl) ?_)
        refine .op (o_callV sha_right F.cal104 rfl rfl rfl (by simp) ?_)
        refine .op (.y (y_bitI rfl rfl) ?_)
        refine .op (.y (y_add rfl rfl) ?_)
        refine .op (.y (y_assign rfl) ?_)
        refine .nil ?_
        refine W.seq ?_
        refine W.region ?_
        refine .op (.y (y_move rfl) ?_)
        refine .op (.y (y_move rfl) ?_)
        refine .op (.y (y_indexA1 (i := 5) rfl rfl Tryd.underlying144 F.sz143 (by omega)) ?_)
        refine .op (.y (y_load 0 rfl rfl rfl F.sc143) ?_)
        refine .op (.y (y_bitI rfl rfl) ?_)
        refine .op (.y (y_move rfl) ?_)
        refine .op (.y (y_xorI rfl) ?_)
        refine .op (.y (y_indexA1 (i := 6) rfl rfl Tryd.underlying144 F.sz143 (by omega)) ?_)
        refine .op (.y (y_load 0 rfl rfl rfl F.sc143) ?_)
        refine .op (.y (y_bitI rfl rfl) ?_)
        refine .op (.y (y_bitI rfl rfl) ?_)
        refine .op (.y (y_add rfl rfl) ?_)
        refine .op (.y (y_assign rfl) ?_)
        refine .nil ?_
        refine W.seq ?_
        refine W.region ?_
        refine .op (.y (y_move rfl) ?_)
        refine .op (o_callV sha_right F.cal104 rfl rfl rfl (by simp) ?_)
        refine .op (.y (y_move rfl) ?_)
        refine .op (o_callV sha_right F.cal104 rfl rfl rfl (by simp) ?_)
        refine .op (.y (y_bitI rfl rfl) ?_)
        refine .op (.y (y_move rfl) ?_)
        refine .op (o_callV sha_right F.cal104 rfl rfl rfl (by simp) ?_)
        refine .op (.y (y_bitI rfl rfl) ?_)
        refine .op (.y (y_assign rfl) ?_)
        refine .nil ?_
        refine W.seq ?_
        refine W.region ?_
        refine .op (.y (y_move rfl) ?_)
        refine .op (.y (y_move rfl) ?_)
        refine .op (.y (y_indexA1 (i := 1) rfl rfl Tryd.underlying144 F.sz143 (by omega)) ?_)
        refine .op (.y (y_load 0 rfl rfl rfl F.sc143) ?_)
        refine .op (.y (y_bitI rfl rfl) ?_)
        refine .op (.y (y_move rfl) ?_)
        refine .op (.y (y_indexA1 (i := 2) rfl rfl Tryd.underlying144 F.sz143 (by omega)) ?_)
        refine .op (.y (y_load 0 rfl rfl rfl F.sc143) ?_)
        refine .op (.y (y_bitI rfl rfl) ?_)
        refine .op (.y (y_bitI rfl rfl) ?_)
        refine .op (.y (y_indexA1 (i := 1) rfl rfl Tryd.underlying144 F.sz143 (by omega)) ?_)
        refine .op (.y (y_load 0 rfl rfl rfl F.sc143) ?_)
        refine .op (.y (y_indexA1 (i := 2) rfl rfl Tryd.underlying144 F.sz143 (by omega)) ?_)
        refine .op (.y (y_load 0 rfl rfl rfl F.sc143) ?_)
        refine .op (.y (y_bitI rfl rfl) ?_)
        refine .op (.y (y_bitI rfl rfl) ?_)
        refine .op (.y (y_add rfl rfl) ?_)
        refine .op (.y (y_assign rfl) ?_)
        refine .nil ?_
        refine W.seq ?_
        refine W.draw F.mixed (true, [([], []), ([], []), ([0, 1], [0, 1])]) [2] (by kernel_rfl) _ _ (Incl.refl _ _) ?_
        refine .takeP 0 rfl (by decide) (y_sliceA (i := 1) (j := 8) rfl Tryd.underlying144 F.sz143 (by exact ⟨_, rfl⟩) rfl (by omega) (by omega)) ?_
        refine .takeP 1 rfl (by decide) (y_sliceA (i := 0) (j := 7) rfl Tryd.underlying144 F.sz143 rfl (by exact ⟨_, rfl⟩) (by omega) (by omega)) ?_
        refine .sw (by decide) ?_
        refine .one 2 (by decide) rfl (o_copyA (b := b7) (b2 := b7) (o1 := 1) (o2 := 0) (l1 := 7) (l2 := 7) (vs := [u32 va, u32 vb, u32 vc, u32 vd, u32 ve, u32 vf, u32 vg]) 0 0 rfl rfl rfl rfl Tryd.underlying171 F.sz143 rfl rfl (by simp) (by simp [u32_one]) ⟨Incl.none _ _, ?_⟩)
        refine .done (by decide) ?_
        refine W.seq ?_
        refine W.region ?_
        refine .op (.y (y_indexA1 (i := 4) rfl rfl Tryd.underlying144 F.sz143 (by omega)) ?_)
        refine .op (.y (y_load 0 rfl rfl rfl F.sc143) ?_)
        refine .op (.y (y_move rfl) ?_)
        refine .op (.y (y_add rfl rfl) ?_)
        refine .op (.y (y_indexA1 (i := 4) rfl rfl Tryd.underlying144 F.sz143 (by omega)) ?_)
        refine .op (o_store 0 rfl rfl rfl rfl (by simp) F.sz143 ?_)
        refine .nil ?_
        refine W.region ?_
        refine .op (.y (y_move rfl) ?_)
        refine .op (.y (y_move rfl) ?_)
        refine .op (.y (y_add rfl rfl) ?_)
        refine .op (.y (y_indexA1 (i := 0) rfl rfl Tryd.underlying144 F.sz143 (by omega)) ?_)
        refine .op (o_store 0 rfl rfl rfl rfl (by simp) F.sz143 ?_)
        refine .nil ?_
        refine W.region ?_
        refine .op (.y (y_addN (j := 1) rfl rfl (by omega)) ?_)
        refine .op (.y (y_move rfl) ?_)
        refine .nil ?_
        exact ⟨i + 1, by first | omega | (simp only; omega), by first | omega | (simp only; omega), rfl, ⟨rfl, rfl, rfl, rfl, rfl, rfl, trivial⟩, by rw [hstep]; exact ⟨[], List.Perm.refl _⟩, by simp⟩
      ·
        try simp only [decide_eq_true_eq, decide_eq_false_iff_not, Bool.not_eq_true', Bool.not_eq_false', Int.ofNat_lt, Int.ofNat_le, Int.not_lt, Nat.not_lt, Int.not_le, Nat.not_le, Int.natCast_inj, ne_eq, Decidable.not_not] at hc39
        have hge : ¬ 16 ≤ i := by simpa using hc39
        have hmsg : msg w i = w := by unfold msg; rw [if_neg hge]
        have hlC : w.length = 16 := hwl
        refine W.skip ?_
        refine W.seq ?_
        (try refine W.reO 1 (cel b5 168 ((msgC (msgB (msgA w i) i) i (w.getD ((i + 14) % 16) 0)).map u32)) rfl (congrArg (cel b5 168) (mapu_set (msgB (msgA w i) i) (i % 16) _)) ?_)
        (try rw [← hmsg] at hlC)
        (try rw [← hmsg])
        generalize msg w i = w' at *
        refine W.asO [cel b7 144 [u32 va, u32 vb, u32 vc, u32 vd, u32 ve, u32 vf, u32 vg, u32 vh], cel b5 168 (w'.map u32), cel b4 144 (List.replicate 8 (u32 0)), cel b2 144 h.cells] rfl ?_
        refine W.draw F.mixed (true, [([], []), ([0], [0]), ([], []), ([2], [2]), ([1, 0, 1], [1]), ([3, 4, 0, 1, 2, 3, 4], [3])]) [] (by kernel_rfl) _ _ (Incl.refl _ _) ?_
        refine .takeP 0 rfl (by decide) (y_indexA1 (i := 0) rfl rfl Tryd.underlying144 F.sz143 (by omega)) ?_
        refine .take 1 rfl (by decide) (y_load 0 rfl rfl rfl F.sc143) ?_
        refine .takeP 2 rfl (by decide) (y_indexA1 (i := 4) rfl rfl Tryd.underlying144 F.sz143 (by omega)) ?_
        refine .take 3 rfl (by decide) (y_load 0 rfl rfl rfl F.sc143) ?_
        refine .takeP 4 rfl (by decide) (y_assign rfl) ?_
        refine .takeP 5 rfl (by decide) (y_assign rfl) ?_
        refine .done (by decide) ?_
        refine W.seq ?_
        refine W.draw F.mixed (true, [([], []), ([0], [0]), ([], []), ([1, 2], [1, 2]), ([], []), ([4], [4]), ([5], [5]), ([6], [6]), ([3, 7], [3, 7]), ([8, 0, 1, 2, 3, 4, 5, 6, 7, 8], [8])]) [] (by kernel_rfl) _ _ (Incl.refl _ _) ?_
        refine .takeP 0 rfl (by decide) (y_indexA1 (i := 7) rfl rfl Tryd.underlying144 F.sz143 (by omega)) ?_
        refine .take 1 rfl (by decide) (y_load 0 rfl rfl rfl F.sc143) ?_
        refine .takeP 2 rfl (by decide) (y_move rfl) ?_
        refine .takeP 3 rfl (by decide) (y_add rfl rfl) ?_
        refine .takeP 4 rfl (by decide) (y_move rfl) ?_
        refine .takeP 5 rfl (by decide) (y_remN (j := 16) rfl rfl (by omega)) ?_
        refine .takeP 6 rfl (by decide) (y_indexA1 rfl rfl Tryd.underlying168 F.sz143 (Nat.mod_lt _ (by omega))) ?_
        refine .take 7 rfl (by decide) (y_load 1 rfl rfl (mapu (by rw [hlC]; exact Nat.mod_lt _ (by omega))) F.sc143) ?_
        refine .takeP 8 rfl (by decide) (y_add rfl rfl) ?_
        refine .takeP 9 rfl (by decide) (y_assign rfl) ?_
        refine .done (by decide) ?_
        refine W.seq ?_
        refine W.region ?_
        refine .op (.y (y_move rfl) ?_)
        refine .op (.y (y_move rfl) ?_)
        refine .op (o_callV sha_right F.cal104 rfl rfl rfl (by simp) ?_)
        refine .op (.y (y_move rfl) ?_)
        refine .op (o_callV sha_right F.cal104 rfl rfl rfl (by simp) ?_)
        refine .op (.y (y_bitI rfl rfl) ?_)
        refine .op (.y (y_move rfl) ?_)
        refine .op (o_callV sha_right F.cal104 rfl rfl rfl (by simp) ?_)
        refine .op (.y (y_bitI rfl rfl) ?_)
        refine .op (.y (y_add rfl rfl) ?_)
        refine .op (.y (y_assign rfl) ?_)
        refine .nil ?_
        refine W.seq ?_
        refine W.region ?_
        refine .op (.y (y_move rfl) ?_)
        refine .op (.y (y_move rfl) ?_)
        refine .op (.y (y_indexA1 (i := 5) rfl rfl Tryd.underlying144 F.sz143 (by omega)) ?_)
        refine .op (.y (y_load 0 rfl rfl rfl F.sc143) ?_)
        refine .op (.y (y_bitI rfl rfl) ?_)
        refine .op (.y (y_move rfl) ?_)
        refine .op (.y (y_xorI rfl) ?_)
        refine .op (.y (y_indexA1 (i := 6) rfl rfl Tryd.underlying144 F.sz143 (by omega)) ?_)
        refine .op (.y (y_load 0 rfl rfl rfl F.sc143) ?_)
        refine .op (.y (y_bitI rfl rfl) ?_)
        refine .op (.y (y_bitI rfl rfl) ?_)
        refine .op (.y (y_add rfl rfl) ?_)
        refine .op (.y (y_assign rfl) ?_)
        refine .nil ?_
        refine W.seq ?_
        refine W.region ?_
        refine .op (.y (y_move rfl) ?_)
        refine .op (o_callV sha_right F.cal104 rfl rfl rfl (by simp) ?_)
        refine .op (.y (y_move rfl) ?_)
        refine .op (o_callV sha_right F.cal104 rfl rfl rfl (by simp) ?_)
        refine .op (.y (y_bitI rfl rfl) ?_)
        refine .op (.y (y_move rfl) ?_)
        refine .op (o_callV sha_right F.cal104 rfl rfl rfl (by simp) ?_)
        refine .op (.y (y_bitI rfl rfl) ?_)
        refine .op (.y (y_assign rfl) ?_)
        refine .nil ?_
        refine W.seq ?_
        refine W.region ?_
        refine .op (.y (y_move rfl) ?_)
        refine .op (.y (y_move rfl) ?_)
        refine .op (.y (y_indexA1 (i := 1) rfl rfl Tryd.underlying144 F.sz143 (by omega)) ?_)
        refine .op (.y (y_load 0 rfl rfl rfl F.sc143) ?_)
        refine .op (.y (y_bitI rfl rfl) ?_)
        refine .op (.y (y_move rfl) ?_)
        refine .op (.y (y_indexA1 (i := 2) rfl rfl Tryd.underlying144 F.sz143 (by omega)) ?_)
        refine .op (.y (y_load 0 rfl rfl rfl F.sc143) ?_)
        refine .op (.y (y_bitI rfl rfl) ?_)
        refine .op (.y (y_bitI rfl rfl) ?_)
        refine .op (.y (y_indexA1 (i := 1) rfl rfl Tryd.underlying144 F.sz143 (by omega)) ?_)
        refine .op (.y (y_load 0 rfl rfl rfl F.sc143) ?_)
        refine .op (.y (y_indexA1 (i := 2) rfl rfl Tryd.underlying144 F.sz143 (by omega)) ?_)
        refine .op (.y (y_load 0 rfl rfl rfl F.sc143) ?_)
        refine .op (.y (y_bitI rfl rfl) ?_)
        refine .op (.y (y_bitI rfl rfl) ?_)
        refine .op (.y (y_add rfl rfl) ?_)
        refine .op (.y (y_assign rfl) ?_)
        refine .nil ?_
        refine W.seq ?_
        refine W.draw F.mixed (true, [([], []), ([], []), ([0, 1], [0, 1])]) [2] (by kernel_rfl) _ _ (Incl.refl _ _) ?_
        refine .takeP 0 rfl (by decide) (y_sliceA (i := 1) (j := 8) rfl Tryd.underlying144 F.sz143 (by exact ⟨_, rfl⟩) rfl (by omega) (by omega)) ?_
        refine .takeP 1 rfl (by decide) (y_sliceA (i := 0) (j := 7) rfl Tryd.underlying144 F.sz143 rfl (by exact ⟨_, rfl⟩) (by omega) (by omega)) ?_
        refine .sw (by decide) ?_
        refine .one 2 (by decide) rfl (o_copyA (b := b7) (b2 := b7) (o1 := 1) (o2 := 0) (l1 := 7) (l2 := 7) (vs := [u32 va, u32 vb, u32 vc, u32 vd, u32 ve, u32 vf, u32 vg]) 0 0 rfl rfl rfl rfl Tryd.underlying171 F.sz143 rfl rfl (by simp) (by simp [u32_one]) ⟨Incl.none _ _, ?_⟩)
        refine .done (by decide) ?_
        refine W.seq ?_
        refine W.region ?_
        refine .op (.y (y_indexA1 (i := 4) rfl rfl Tryd.underlying144 F.sz143 (by omega)) ?_)
        refine .op (.y (y_load 0 rfl rfl rfl F.sc143) ?_)
        refine .op (.y (y_move rfl) ?_)
        refine .op (.y (y_add rfl rfl) ?_)
        refine .op (.y (y_indexA1 (i := 4) rfl rfl Tryd.underlying144 F.sz143 (by omega)) ?_)
        refine .op (o_store 0 rfl rfl rfl rfl (by simp) F.sz143 ?_)
        refine .nil ?_
        refine W.region ?_
        refine .op (.y (y_move rfl) ?_)
        refine .op (.y (y_move rfl) ?_)
        refine .op (.y (y_add rfl rfl) ?_)
        refine .op (.y (y_indexA1 (i := 0) rfl rfl Tryd.underlying144 F.sz143 (by omega)) ?_)
        refine .op (o_store 0 rfl rfl rfl rfl (by simp) F.sz143 ?_)
        refine .nil ?_
        refine W.region ?_
        refine .op (.y (y_addN (j := 1) rfl rfl (by omega)) ?_)
        refine .op (.y (y_move rfl) ?_)
        refine .nil ?_
        exact ⟨i + 1, by first | omega | (simp only; omega), by first | omega | (simp only; omega), rfl, ⟨rfl, rfl, rfl, rfl, rfl, rfl, trivial⟩, by rw [hstep]; exact ⟨[], List.Perm.refl _⟩, by simp⟩
    ·
      try simp only [decide_eq_true_eq, decide_eq_false_iff_not, Bool.not_eq_true', Bool.not_eq_false', Int.ofNat_lt, Int.ofNat_le, Int.not_lt, Nat.not_lt, Int.not_le, Nat.not_le, Int.natCast_inj, ne_eq, Decidable.not_not] at hc35
      refine W.exit ?_
      have hi' : i = 64 := by have h : ¬ (i < 64) := (by simpa using hc35); omega
      subst hi'
      refine W.seq ?_
      refine W.seq ?_
      refine W.region ?_
      refine .op (.y (y_move rfl) ?_)
      refine .nil ?_
      refine W.block ?_
      refine W.loopI (ι := Nat) (fun i => i ≤ 8) (fun i => [(2, ptr b2), (4, ptr b4), (7, ptr b7), (162, .int .i64 (i : Int))]) (fun i => [cel b7 144 (((sumL [va, vb, vc, vd, ve, vf, vg, vh] h.list).take i ++ [va, vb, vc, vd, ve, vf, vg, vh].drop i).map u32), cel b4 144 (List.replicate 8 (u32 0)), cel b2 144 (h.list.map u32)]) (fun i => []) (fun i => 8 - i) 0 (by simp)
        ⟨rfl, ⟨rfl, rfl, rfl, rfl, trivial⟩, at3 0 1 1 rfl rfl rfl, by simp⟩ ?_
      rintro i hG
      try simp only at hG ⊢
      refine W.seq ?_
      refine W.region ?_
      refine .op (.y (y_lssN (j := 8) rfl rfl) ?_)
      refine .nil ?_
      refine W.seq ?_
      refine W.cond rfl (fun hc163 => ?_) (fun hc163 => ?_)
      ·
        try simp only [decide_eq_true_eq, decide_eq_false_iff_not, Bool.not_eq_true', Bool.not_eq_false', Int.ofNat_lt, Int.ofNat_le, Int.not_lt, Nat.not_lt, Int.not_le, Nat.not_le, Int.natCast_inj, ne_eq, Decidable.not_not] at hc163
        have hi' : i < 8 := by omega
        have hv : (sumL [va, vb, vc, vd, ve, vf, vg, vh] h.list).length = 8 := rfl
        refine W.skip ?_
        refine W.seq ?_
        refine W.block ?_
        refine W.seq ?_
        refine W.region ?_
        refine .op (.y (y_move rfl) ?_)
        refine .op (.y (y_assign rfl) ?_)
        refine .nil ?_
        refine W.draw F.mixed (true, [([], []), ([0], [0]), ([1], [1]), ([], []), ([3], [3]), ([4], [4]), ([2, 5], [2, 5]), ([0, 0, 1, 2, 3, 4, 5, 6], [0]), ([7, 6, 0, 1, 2, 3, 4, 5, 6], [6, 7])]) [8] (by kernel_rfl) _ _ (Incl.refl _ _) ?_
        refine .takeP 0 rfl (by decide) (y_move rfl) ?_
        refine .takeP 1 rfl (by decide) (y_indexA1 rfl rfl Tryd.underlying144 F.sz143 (by omega)) ?_
        refine .take 2 rfl (by decide) (y_load 0 rfl rfl (mapu (by simp [sumL, S8.list]; omega)) F.sc143) ?_
        refine .takeP 3 rfl (by decide) (y_move rfl) ?_
        refine .takeP 4 rfl (by decide) (y_indexA1 rfl rfl Tryd.underlying144 F.sz143 (by omega)) ?_
        refine .take 5 rfl (by decide) (y_load 2 rfl rfl (mapu (by simp [S8.list]; omega)) F.sc143) ?_
        refine .takeP 6 rfl (by decide) (y_add rfl rfl) ?_
        refine .takeP 7 rfl (by decide) (y_indexA1 rfl rfl Tryd.underlying144 F.sz143 (by omega)) ?_
        refine .sw (by decide) ?_
        refine .one 8 (by decide) rfl (o_store 0 rfl rfl rfl rfl (by simp [sumL, S8.list]; omega) F.sz143 ⟨Incl.none _ _, ?_⟩)
        refine .done (by decide) ?_
        refine W.region ?_
        refine .op (.y (y_addN (j := 1) rfl rfl (by omega)) ?_)
        refine .op (.y (y_move rfl) ?_)
        refine .nil ?_
        have he := sum_fill (v := [va, vb, vc, vd, ve, vf, vg, vh]) (h := h.list) rfl rfl hi'
        exact ⟨i + 1, by first | omega | (simp only; omega), by first | omega | (simp only; omega), rfl, ⟨rfl, rfl, rfl, rfl, trivial⟩, by rw [← he]; exact at3 0 0 0 rfl rfl rfl, by simp⟩
      ·
        try simp only [decide_eq_true_eq, decide_eq_false_iff_not, Bool.not_eq_true', Bool.not_eq_false', Int.ofNat_lt, Int.ofNat_le, Int.not_lt, Nat.not_lt, Int.not_le, Nat.not_le, Int.natCast_inj, ne_eq, Decidable.not_not] at hc163
        refine W.exit ?_
        have hi' : i = 8 := by omega
        subst hi'
        refine W.seq ?_
        refine W.region ?_
        refine .op (.y (y_loadA 0 rfl rfl (by simp [sumL, S8.list]) F.agg144) ?_)
        refine .op (o_storeN (vs := (sumL [va, vb, vc, vd, ve, vf, vg, vh] h.list).map u32) 1 rfl rfl rfl rfl (by simp [sumL, S8.list]) (by simp [u32_one]) F.sz144 ?_)
        refine .nil ?_
        refine W.ret ?_
        exact retC 1 rfl rfl rfl F.agg144 [] [] ⟨by unfold shaStep; rw [hwv]; rfl, rfl, rfl⟩ (by simp) (by simp)
end Go.Proofs.Sep
