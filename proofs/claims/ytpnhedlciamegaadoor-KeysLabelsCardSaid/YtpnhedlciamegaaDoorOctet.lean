/- Package octet. -/
import Derived.Test.YtpnhedlciamegaaDoorFacts
set_option linter.all false
set_option linter.unusedSimpArgs false
set_option linter.unnecessarySimpa false
set_option linter.deprecated false
set_option maxRecDepth 100000
set_option linter.unusedVariables false
namespace Go.Proofs.Sep
open Go Go.RowKit

/-! ### octet.text -/
theorem octet_text {φ : Frag} {v : Value} {l : List UInt8} (hv : Sl φ v 1 (l.map fun c => [byte c])) : Spec Tryd.prog 74 #[v] [] [φ] (Val (str l)) := by
  refine Spec.body (args := [v]) (n := 5) Tryd.func74 rfl Tryd.ntmps74 (by simp) fun w0 _ => ?_
  refine W.seq (W.region ?_)
  refine .op (.y (y_assign rfl) ?_)
  refine .nil ?_
  refine W.seq (W.region ?_)
  refine .op (.y (y_move rfl) ?_)
  refine .op (.y (y_bytesS rfl (by simp) hv Tryd.underlying76 Tryd.underlying5 Tryd.underlying9) ?_)
  refine .op (.y (y_assign rfl) ?_)
  refine .nil ?_
  refine W.ret ?_
  exact ret1 rfl rfl [] [] ⟨rfl, rfl, rfl⟩ (by simp) (by simp)

/-! ### octet.Big -/
/-- A number's byte, the lowest one being number 0. -/
def lowB (n : Int) (i : Nat) : UInt8 := UInt8.ofNat ((n / 2 ^ (8 * i)) % 256).toNat
def bigN (many : Int) : Nat := (min (max many 0) 8).toNat
def lowL (n : Int) (k : Nat) : List UInt8 := (List.range k).map (lowB n)
/-- A number as bytes, the highest one first. -/
def bigL (n : Int) (k : Nat) : List UInt8 := (lowL n k).reverse

theorem byte_ofNat (k : Nat) (h : k < 256) : byte (UInt8.ofNat k) = .int .u8 (k : Int) := by
  unfold byte
  congr 1
  simp [UInt8.toNat_ofNat', Nat.mod_eq_of_lt h]
theorem lowB_value {n : Int} (h0 : 0 ≤ n) (i : Nat) (h8 : i < 8) : Value.int .u8 (IntKind.u8.wrap (n.fdiv (2 ^ (min (8 * (i : Int)).toNat IntKind.u64.bits)))) = byte (lowB n i) := by
  have hb : IntKind.u64.bits = 64 := by decide
  have e1 : min (8 * (i : Int)).toNat IntKind.u64.bits = 8 * i := by rw [hb]; omega
  rw [e1]
  have hpos : (0 : Int) ≤ 2 ^ (8 * i) := by exact Int.pow_nonneg (by omega)
  rw [Int.fdiv_eq_ediv_of_nonneg _ hpos]
  unfold lowB
  have h1 : 0 ≤ (n / 2 ^ (8 * i)) % 256 := Int.emod_nonneg _ (by omega)
  have h2 : (n / 2 ^ (8 * i)) % 256 < 256 := Int.emod_lt_of_pos _ (by omega)
  rw [byte_ofNat _ (by omega), IntKind.wrap_u8]
  congr 1
  omega

theorem swap_rev {α : Type} {l c : List α} {i j : Nat} {x y : α} (hlen : c.length = l.length) (hij : i + j + 1 = l.length) (hlt : i < j)
    (hc : ∀ t, t < l.length → c[t]? = if t < i ∨ j < t then l[l.length - 1 - t]? else l[t]?) (hx : c[i]? = some x) (hy : c[j]? = some y) :
    ∀ t, t < l.length → ((c.set i y).set j x)[t]? = if t < i + 1 ∨ j - 1 < t then l[l.length - 1 - t]? else l[t]? := by
  intro t ht
  have hi := hc i (by omega)
  have hj := hc j (by omega)
  rw [if_neg (by omega)] at hi hj
  rw [List.getElem?_set, List.getElem?_set]
  have e1 : l.length - 1 - i = j := by omega
  have e2 : l.length - 1 - j = i := by omega
  by_cases h1 : j = t
  · subst h1
    rw [if_pos rfl, List.length_set, if_pos (by omega), if_pos (by omega), e2, ← hi, hx]
  · rw [if_neg h1]
    by_cases h2 : i = t
    · subst h2
      rw [if_pos rfl, if_pos (by omega), if_pos (by omega), e1, ← hj, hy]
    · rw [if_neg h2, hc t ht]
      by_cases h3 : t < i ∨ j < t
      · rw [if_pos h3, if_pos (by omega)]
      · rw [if_neg h3, if_neg (by omega)]
theorem swapped_all {α : Type} {l c : List α} {i j : Nat} (hlen : c.length = l.length) (hij : (i : Int) + j + 1 = l.length ∨ l.length = 0) (hge : j ≤ i)
    (hc : ∀ t, t < l.length → c[t]? = if t < i ∨ j < t then l[l.length - 1 - t]? else l[t]?) : c = l.reverse := by
  apply List.ext_getElem?
  intro t
  by_cases ht : t < l.length
  · rw [hc t ht, List.getElem?_reverse ht]
    split
    · rfl
    · have : l.length - 1 - t = t := by omega
      rw [this]
  · rw [List.getElem?_eq_none (by omega), List.getElem?_eq_none (by simp; omega)]
def rowB (l : List UInt8) : List (List Value) := l.map fun c => [byte c]
theorem rowB_get {l : List UInt8} {i : Nat} {x : UInt8} (h : l[i]? = some x) : (rowB l)[i]? = some [byte x] := by simp [rowB, h]
theorem rowB_set (l : List UInt8) (i : Nat) (x y : UInt8) : (rowB l).set i ([byte y].set 0 (byte x)) = rowB (l.set i x) := by
  unfold rowB
  rw [List.map_set]
  rfl
theorem rowB_len (l : List UInt8) : (rowB l).length = l.length := by simp [rowB]

theorem octet_Big {n many : Int} (h0 : 0 ≤ n) (hm : -9223372036854775808 ≤ many ∧ many ≤ 9223372036854775807) :
    Spec Tryd.prog 39 #[.int .u64 n, .int .i64 many] [] [] (Val (str (bigL n (bigN many)))) := by
  refine Spec.body (args := [.int .u64 n, .int .i64 many]) (n := 50) Tryd.func39 rfl Tryd.ntmps39 (by simp) fun w0 _ => ?_
  have hk8 : bigN many ≤ 8 := by unfold bigN; omega
  have hkv : min (max many 0) 8 = (bigN many : Int) := by unfold bigN; omega
  generalize hk : bigN many = k at *
  refine W.seq ?_
  refine W.region ?_
  refine .op (.y (y_assign rfl) ?_)
  refine .nil ?_
  refine W.seq ?_
  refine W.region ?_
  refine .op (.y (y_assign rfl) ?_)
  refine .nil ?_
  refine W.seq ?_
  refine W.seq ?_
  refine W.region ?_
  refine .op (.y (y_move rfl) ?_)
  refine .op (.y (y_max rfl rfl) ?_)
  refine .op (.y (y_min rfl rfl) ?_)
  refine .op (.y (y_move rfl) ?_)
  refine .nil ?_
  rw [hkv]
  refine W.block ?_
  refine W.nilRow 5 1 ?_
  refine W.loopI (ι := Nat × Value) (fun p => p.1 ≤ k) (fun p => [(0, .int .u64 n), (5, p.2), (11, .int .i64 (k : Int)), (12, .int .i64 (p.1 : Int))]) (fun p => [.row p.2 5 1 (rowB (lowL n p.1))]) (fun _ => []) (fun p => k - p.1) (0, .slice none 0 0) (by simp)
    ⟨rfl, ⟨rfl, rfl, rfl, rfl, trivial⟩, at1 0 rfl, by simp⟩ ?_
  rintro ⟨i, v⟩ hi
  simp only at hi ⊢
  refine W.seq ?_
  refine W.region ?_
  refine .op (.y (y_lss rfl rfl) ?_)
  refine .nil ?_
  refine W.seq ?_
  refine W.cond rfl (fun hc => ?_) (fun hc => ?_)
  · refine W.skip ?_
    have hc' : i < k := by simpa using hc
    refine W.seq ?_
    refine W.block ?_
    refine W.seq ?_
    refine W.region ?_
    refine .op (.y (y_move rfl) ?_)
    refine .op (.y (y_assign rfl) ?_)
    refine .nil ?_
    refine W.region ?_
    refine .op (.y (y_move rfl) ?_)
    refine .op (.y (y_move rfl) ?_)
    refine .op (.y (y_move rfl) ?_)
    refine .op (.y (y_mulI rfl rfl (by omega)) ?_)
    refine .op (.y (y_shr rfl rfl (by omega)) ?_)
    refine .op (.y (y_conv rfl Tryd.underlying22 Tryd.underlying5) ?_)
    rw [lowB_value h0 i (by omega)]
    refine .op (o_buildD [byte (lowB n i)] (rowB [lowB n i]) Tryd.underlying76 F.ze5 rfl (by omega) rfl rfl rfl rfl (by simp [rowB]) (by omega) (fun gb hgb => ?_))
    refine .op (o_append 1 rfl rfl rfl (.inl ⟨0, _, rfl⟩) Tryd.underlying76 F.ze5 rfl (by omega) (by simp [rowB, lowL]; omega) (by omega) (by simp [rowB, byte, Value.oneCell']) (fun v' hv hE => ?_))
    refine .op (.y (y_assign rfl) ?_)
    refine .nil ?_
    refine W.region ?_
    refine .op (.y (y_addI rfl rfl (by omega)) ?_)
    refine .op (.y (y_move rfl) ?_)
    refine .nil ?_
    have e : rowB (lowL n i) ++ rowB [lowB n i] = rowB (lowL n (i + 1)) := by simp [rowB, lowL, List.range_succ]
    rw [e]
    exact ⟨(i + 1, v'), by simp only; omega, by simp only; omega, rfl, ⟨rfl, rfl, rfl, rfl, trivial⟩, at1 1 rfl, by simp⟩
  · refine W.exit ?_
    have hik : i = k := by have : ¬ ((i : Int) < k) := by simpa using hc
                           omega
    subst hik
    refine W.seq ?_
    refine W.seq ?_
    refine W.region ?_
    refine .op (.y (y_move rfl) ?_)
    refine .op (.y (y_lenR 0 rfl rfl Tryd.underlying76) ?_)
    have hl : (rowB (lowL n i)).length = i := by simp [rowB, lowL]
    rw [hl]
    refine .op (.y (y_subI rfl rfl (by omega)) ?_)
    refine .op (.y (y_assign rfl) ?_)
    refine .op (.y (y_assign rfl) ?_)
    refine .nil ?_
    refine W.block ?_
    refine W.loopI (ι := Nat × List UInt8) (fun p => p.2.length = i ∧ 2 * p.1 ≤ i ∧ ∀ t, t < i → p.2[t]? = if t < p.1 ∨ i - 1 - p.1 < t then (lowL n i)[i - 1 - t]? else (lowL n i)[t]?)
      (fun p => [(5, v), (7, .int .i64 (p.1 : Int)), (8, .int .i64 ((i : Int) - 1 - p.1))]) (fun p => [.row v 5 1 (rowB p.2)]) (fun _ => []) (fun p => i - p.1) (0, lowL n i)
      ⟨by simp [lowL], by simp, fun t ht => by rw [if_neg (by simp only; omega)]⟩ ⟨rfl, ⟨rfl, rfl, by simp [Sto.get], trivial⟩, at1 0 rfl, by simp⟩ ?_
    rintro ⟨q, c⟩ ⟨hcl, hq, hcs⟩
    simp only at hcl hq hcs ⊢
    refine W.seq ?_
    refine W.seq ?_
    refine W.region ?_
    refine .op (.y (y_move rfl) ?_)
    refine .op (.y (y_move rfl) ?_)
    refine .op (.y (y_lss rfl rfl) ?_)
    refine .nil ?_
    refine W.cond rfl (fun hc => ?_) (fun hc => ?_)
    · refine W.skip ?_
      have hc' : (q : Int) < (i : Int) - 1 - q := by simpa using hc
      refine W.rowForm 0 rfl (by rw [rowB_len]; omega) fun gb cap he hcap => ?_
      subst he
      rw [rowB_len, hcl]
      obtain ⟨j, hj⟩ : ∃ j : Nat, (j : Int) = (i : Int) - 1 - q := ⟨i - 1 - q, by omega⟩
      rw [← hj]
      have hxl : q < c.length := by omega
      have hyl : j < c.length := by omega
      have hx : c[q]? = some c[q] := List.getElem?_eq_getElem hxl
      have hy : c[j]? = some c[j] := List.getElem?_eq_getElem hyl
      generalize c[q] = x at hx
      generalize c[j] = y at hy
      refine W.seq ?_
      refine W.block ?_
      refine W.draw F.mixed (true, [([], []), ([], []), ([], []), ([], []), ([], []), ([], []), ([4, 5], [4, 5]), ([6], [6]), ([], []), ([], []), ([8, 9], [8, 9]), ([10], [10]), ([0, 1, 0, 1, 4, 5, 6, 7, 11], [0, 1]), ([12, 7, 0, 1, 4, 5, 6, 7, 11], [7, 12]), ([2, 3, 0, 1, 2, 3, 4, 5, 6, 7, 8, 9, 10, 11, 12, 13], [2, 3]), ([14, 11, 13, 0, 1, 2, 3, 4, 5, 6, 7, 8, 9, 10, 11, 12, 13], [11, 14])]) [13, 14, 15] (by kernel_rfl) _ _ (Incl.refl _ _) ?_
      refine .takeP 0 rfl (by decide) (y_move rfl) ?_
      refine .takeP 1 rfl (by decide) (y_move rfl) ?_
      refine .takeP 2 rfl (by decide) (y_move rfl) ?_
      refine .takeP 3 rfl (by decide) (y_move rfl) ?_
      refine .takeP 4 rfl (by decide) (y_move rfl) ?_
      refine .takeP 5 rfl (by decide) (y_move rfl) ?_
      refine .takeP 6 rfl (by decide) (y_indexR rfl rfl Tryd.underlying76 F.sz5 (by omega) (by omega)) ?_
      refine .take 7 rfl (by decide) (y_loadR 0 j 0 rfl rfl rfl (by simp) (rowB_get hy) rfl F.sc5) ?_
      refine .takeP 8 rfl (by decide) (y_move rfl) ?_
      refine .takeP 9 rfl (by decide) (y_move rfl) ?_
      refine .takeP 10 rfl (by decide) (y_indexR rfl rfl Tryd.underlying76 F.sz5 (by omega) (by omega)) ?_
      refine .take 11 rfl (by decide) (y_loadR 0 q 0 rfl rfl rfl (by simp) (rowB_get hx) rfl F.sc5) ?_
      refine .takeP 12 rfl (by decide) (y_indexR rfl rfl Tryd.underlying76 F.sz5 (by omega) (by omega)) ?_
      refine .sw (by decide) ?_
      refine .one 13 (by decide) rfl (o_storeR 0 q 0 rfl rfl rfl rfl rfl (by simp) (rowB_get hx) (by omega) F.sz5 ⟨Incl.none _ _, ?_⟩)
      rw [rowB_set]
      refine .takeP 14 rfl (by decide) (y_indexR rfl rfl Tryd.underlying76 F.sz5 (by omega) (by omega)) ?_
      have hy2 : (c.set q y)[j]? = some y := by rw [List.getElem?_set_ne (by omega)]; exact hy
      refine .one 15 (by decide) rfl (o_storeR 0 j 0 rfl rfl rfl rfl rfl (by simp) (rowB_get hy2) (by omega) F.sz5 ⟨Incl.none _ _, ?_⟩)
      rw [rowB_set]
      refine .done (by decide) ?_
      refine W.region ?_
      refine .op (.y (y_move rfl) ?_)
      refine .op (.y (y_addI rfl rfl (by omega)) ?_)
      refine .op (.y (y_move rfl) ?_)
      refine .op (.y (y_subI rfl rfl (by omega)) ?_)
      refine .op (.y (y_assign rfl) ?_)
      refine .op (.y (y_assign rfl) ?_)
      refine .nil ?_
      have hle : (lowL n i).length = i := by simp [lowL]
      have hst := swap_rev (l := lowL n i) (c := c) (i := q) (j := j) (x := x) (y := y) (by rw [hle, hcl]) (by rw [hle]; omega) (by omega) (fun t ht => by
        rw [hle] at ht ⊢
        rw [hcs t ht]
        have : i - 1 - q = j := by omega
        rw [this]) hx hy
      refine ⟨(q + 1, (c.set q y).set j x), ⟨by simp [hcl], by simp only; omega, fun t ht => ?_⟩, by simp only; omega, rfl, ⟨rfl, rfl, ?_, trivial⟩, at1 0 rfl, by simp⟩
      · have := hst t (by rw [hle]; exact ht)
        rw [hle] at this
        simp only
        rw [this]
        have : i - 1 - (q + 1) = j - 1 := by omega
        rw [this]
      · simp only [Sto.get, cond]
        congr 2
        omega
    · refine W.exit ?_
      have hc' : ¬ ((q : Int) < (i : Int) - 1 - q) := by simpa using hc
      have hrev : c = (lowL n i).reverse := by
        have hle : (lowL n i).length = i := by simp [lowL]
        refine swapped_all (i := q) (j := i - 1 - q) (by rw [hle, hcl]) (by rw [hle]; omega) (by omega) (fun t ht => ?_)
        rw [hle] at ht ⊢
        exact hcs t ht
      subst hrev
      refine W.seq ?_
      refine W.region ?_
      refine .op (.y (y_move rfl) ?_)
      refine .freezeRow 0 rfl fun φ hφ => ?_
      refine .op (o_callV (octet_text hφ) F.cal74 rfl rfl rfl (by simp) ?_)
      refine .op (.y (y_assign rfl) ?_)
      refine .nil ?_
      refine W.ret ?_
      exact ret1 rfl rfl [] [] ⟨rfl, rfl, rfl⟩ (by simp) (by simp)

/-! ### octet.ReadBig -/
def rbStep (n : Int) (c : UInt8) : Int := bitI .or .u64 (IntKind.u64.wrap (n * 2 ^ (min (8 : Int).toNat IntKind.u64.bits))) (IntKind.u64.wrap (c.toNat : Int))
def readBig (l : List UInt8) : Int := l.foldl rbStep 0
theorem foldl_take_succ {α β : Type} (f : β → α → β) (b : β) (l : List α) (i : Nat) (x : α) (h : l[i]? = some x) : (l.take (i + 1)).foldl f b = f ((l.take i).foldl f b) x := by
  have : l.take (i + 1) = l.take i ++ [x] := by rw [List.take_add_one, h]; rfl
  rw [this, List.foldl_append]; rfl
theorem octet_ReadBig {l : List UInt8} (hl : l.length ≤ 9223372036854775807) : Spec Tryd.prog 51 #[str l] [] [] (Val (.int .u64 (readBig l))) := by
  refine Spec.body (args := [str l]) (n := 19) Tryd.func51 rfl Tryd.ntmps51 (by simp) fun w0 hw0 => ?_
  refine W.seq ?_
  refine W.region ?_
  refine .op (.y (y_assign rfl) ?_)
  refine .nil ?_
  refine W.seq ?_
  refine W.region ?_
  refine .op (.y (y_assign rfl) ?_)
  refine .nil ?_
  refine W.seq ?_
  refine W.seq ?_
  refine W.region ?_
  refine .op (.y (y_move rfl) ?_)
  refine .op (.y (y_slen rfl Tryd.underlying9) ?_)
  refine .op (.y (y_move rfl) ?_)
  refine .nil ?_
  refine W.block ?_
  refine W.loopI (ι := Nat) (fun i => i ≤ l.length) (fun i => [(0, str l), (3, .int .u64 ((l.take i).foldl rbStep 0)), (6, .int .i64 (l.length : Int)), (7, .int .i64 (i : Int))]) (fun i => []) (fun i => []) (fun i => l.length - i) 0 (by simp)
    ⟨rfl, ⟨rfl, rfl, rfl, rfl, trivial⟩, at0, by simp⟩ ?_
  rintro i hG
  try simp only at hG ⊢
  refine W.seq ?_
  refine W.region ?_
  refine .op (.y (y_lssN rfl rfl) ?_)
  refine .nil ?_
  refine W.seq ?_
  refine W.cond rfl (fun hc8 => ?_) (fun hc8 => ?_)
  ·
    try simp only [decide_eq_true_eq, decide_eq_false_iff_not, Bool.not_eq_true', Bool.not_eq_false', Int.ofNat_lt, Int.ofNat_le, Int.not_lt, Nat.not_lt, Int.not_le, Nat.not_le, Int.natCast_inj, ne_eq, Decidable.not_not] at hc8
    have hi' : i < l.length := by simpa using hc8
    obtain ⟨c, hcc⟩ : ∃ c, l[i]? = some c := ⟨_, List.getElem?_eq_getElem hi'⟩
    refine W.skip ?_
    refine W.seq ?_
    refine W.block ?_
    refine W.seq ?_
    refine W.region ?_
    refine .op (.y (y_move rfl) ?_)
    refine .op (.y (y_assign rfl) ?_)
    refine .nil ?_
    refine W.region ?_
    refine .op (.y (y_move rfl) ?_)
    refine .op (.y (y_shl rfl rfl (by first | omega | simp)) ?_)
    refine .op (.y (y_move rfl) ?_)
    refine .op (.y (y_move rfl) ?_)
    refine .op (.y (y_sindex rfl rfl Tryd.underlying9 (by omega) (by simpa using hcc)) ?_)
    refine .op (.y (y_conv rfl Tryd.underlying5 Tryd.underlying22) ?_)
    refine .op (.y (y_bitI rfl rfl) ?_)
    refine .op (.y (y_assign rfl) ?_)
    refine .nil ?_
    refine W.region ?_
    refine .op (.y (y_addN (j := 1) rfl rfl (by omega)) ?_)
    refine .op (.y (y_move rfl) ?_)
    refine .nil ?_
    have e := foldl_take_succ rbStep 0 l i c hcc
    exact ⟨i + 1, by first | omega | (simp only; omega), by first | omega | (simp only; omega), rfl, ⟨rfl, by rw [e]; rfl, rfl, rfl, trivial⟩, at0, by simp⟩
  ·
    try simp only [decide_eq_true_eq, decide_eq_false_iff_not, Bool.not_eq_true', Bool.not_eq_false', Int.ofNat_lt, Int.ofNat_le, Int.not_lt, Nat.not_lt, Int.not_le, Nat.not_le, Int.natCast_inj, ne_eq, Decidable.not_not] at hc8
    refine W.exit ?_
    have hi' : i = l.length := by have h : ¬ ((i : Int) < l.length) := (by simpa using hc8); omega
    subst hi'
    rw [List.take_length]
    refine W.seq ?_
    refine W.region ?_
    refine .op (.y (y_move rfl) ?_)
    refine .op (.y (y_assign rfl) ?_)
    refine .nil ?_
    refine W.ret ?_
    exact ret1 rfl rfl [] [] ⟨rfl, rfl, rfl⟩ (by simp) (by simp)

theorem fill_get {α : Type} {l : List α} {m i : Nat} {z : α} (hl : l.length = m) (hi : i < m) : (l.take i ++ List.replicate (m - i) z)[i]? = some z := by
  have h1 : (l.take i).length = i := by rw [List.length_take]; omega
  rw [List.getElem?_append_right (by omega), h1, Nat.sub_self, List.getElem?_replicate, if_pos (by omega)]
theorem fill_set {α : Type} {l : List α} {m i : Nat} {z y : α} (hl : l.length = m) (hy : l[i]? = some y) : (l.take i ++ List.replicate (m - i) z).set i y = l.take (i + 1) ++ List.replicate (m - (i + 1)) z := by
  have hi := (List.getElem?_eq_some_iff.1 hy).1
  have h1 : (l.take i).length = i := by rw [List.length_take]; omega
  have h2 : l.take (i + 1) = l.take i ++ [y] := by rw [List.take_add_one, hy]; rfl
  rw [h2, show m - i = (m - (i + 1)) + 1 from by omega, List.replicate_succ, List.set_append_right _ _ (by omega), h1, Nat.sub_self, List.set_cons_zero, List.append_assoc]
  rfl

/-! ### octet.Xor -/
def xorB (a b : UInt8) : UInt8 := UInt8.ofNat (bitI .xor .u8 a.toNat b.toNat).toNat
def xorL (a b : List UInt8) : List UInt8 := List.zipWith xorB a b
theorem bitI_u8 (op : BinOp) (i j : Int) : 0 ≤ bitI op .u8 i j ∧ bitI op .u8 i j < 256 := by
  unfold bitI
  rw [IntKind.wrap_u8]
  omega
theorem byte_xor (a b : UInt8) : Value.int .u8 (bitI .xor .u8 a.toNat b.toNat) = byte (xorB a b) := by
  unfold xorB
  have := bitI_u8 .xor a.toNat b.toNat
  rw [byte_ofNat _ (by omega), Int.toNat_of_nonneg this.1]
theorem octet_Xor {a b : List UInt8} (ha : a.length ≤ 281474976710656) : Spec Tryd.prog 122 #[str a, str b] [] [] (Val (str (xorL a b))) := by
  refine Spec.body (args := [str a, str b]) (n := 31) Tryd.func122 rfl Tryd.ntmps122 (by simp) fun w0 hw0 => ?_
  obtain ⟨m, hm⟩ : ∃ m : Nat, min (a.length : Int) b.length = m := ⟨min a.length b.length, by omega⟩
  refine W.seq ?_
  refine W.region ?_
  refine .op (.y (y_assign rfl) ?_)
  refine .nil ?_
  refine W.seq ?_
  refine W.region ?_
  refine .op (.y (y_move rfl) ?_)
  refine .op (.y (y_slen rfl Tryd.underlying9) ?_)
  refine .op (.y (y_move rfl) ?_)
  refine .op (.y (y_slen rfl Tryd.underlying9) ?_)
  refine .op (.y (y_min rfl rfl) ?_)
  rw [hm]
  refine .op (o_makeSlice rfl rfl Tryd.underlying76 F.ze5 rfl (by omega) (by omega) (by omega) (fun gb hgb => ?_))
  have hz : List.replicate m (Value.int .u8 0).cells.toList = rowB (List.replicate m 0) := by simp [rowB, byte, Value.cells]
  rw [hz]
  refine .op (.y (y_assign rfl) ?_)
  refine .nil ?_
  refine W.seq ?_
  refine W.seq ?_
  refine W.region ?_
  refine .op (.y (y_move rfl) ?_)
  refine .op (.y (y_lenR 0 rfl rfl Tryd.underlying76) ?_)
  rw [rowB_len, List.length_replicate]
  refine .op (.y (y_move rfl) ?_)
  refine .nil ?_
  refine W.block ?_
  refine W.loopI (ι := Nat) (fun i => i ≤ m) (fun i => [(0, str a), (1, str b), (5, .slice (some ⟨gb, 0, none⟩) m m), (14, .int .i64 (m : Int)), (15, .int .i64 (i : Int))]) (fun i => [.row (.slice (some ⟨gb, 0, none⟩) m m) 5 1 (rowB ((xorL a b).take i ++ List.replicate (m - i) 0))]) (fun i => []) (fun i => m - i) 0 (by simp)
    ⟨rfl, ⟨rfl, rfl, rfl, rfl, rfl, trivial⟩, at1 0 (by simp), by simp⟩ ?_
  rintro i hG
  try simp only at hG ⊢
  have hxl : (xorL a b).length = m := by simp [xorL]; omega
  refine W.seq ?_
  refine W.region ?_
  refine .op (.y (y_lssN rfl rfl) ?_)
  refine .nil ?_
  refine W.seq ?_
  refine W.cond rfl (fun hc16 => ?_) (fun hc16 => ?_)
  ·
    try simp only [decide_eq_true_eq, decide_eq_false_iff_not, Bool.not_eq_true', Bool.not_eq_false', Int.ofNat_lt, Int.ofNat_le, Int.not_lt, Nat.not_lt, Int.not_le, Nat.not_le, Int.natCast_inj, ne_eq, Decidable.not_not] at hc16
    have hi' : i < m := by simpa using hc16
    obtain ⟨x, hx⟩ : ∃ x, a[i]? = some x := ⟨_, List.getElem?_eq_getElem (by omega)⟩
    obtain ⟨y, hy⟩ : ∃ y, b[i]? = some y := ⟨_, List.getElem?_eq_getElem (by omega)⟩
    have hxy : (xorL a b)[i]? = some (xorB x y) := by unfold xorL; rw [List.getElem?_zipWith, hx, hy]
    refine W.skip ?_
    refine W.seq ?_
    refine W.block ?_
    refine W.seq ?_
    refine W.region ?_
    refine .op (.y (y_move rfl) ?_)
    refine .op (.y (y_assign rfl) ?_)
    refine .nil ?_
    refine W.draw F.mixed (true, [([], []), ([], []), ([], []), ([], []), ([2, 3], [2, 3]), ([], []), ([], []), ([5, 6], [5, 6]), ([4, 7], [4, 7]), ([0, 1, 0, 1, 2, 3, 4, 5, 6, 7, 8], [0, 1]), ([9, 8, 0, 1, 2, 3, 4, 5, 6, 7, 8], [8, 9])]) [10] (by kernel_rfl) _ _ (Incl.refl _ _) ?_
    refine .takeP 0 rfl (by decide) (y_move rfl) ?_
    refine .takeP 1 rfl (by decide) (y_move rfl) ?_
    refine .takeP 2 rfl (by decide) (y_move rfl) ?_
    refine .takeP 3 rfl (by decide) (y_move rfl) ?_
    refine .takeP 4 rfl (by decide) (y_sindex rfl rfl Tryd.underlying9 (by omega) (by simpa using hx)) ?_
    refine .takeP 5 rfl (by decide) (y_move rfl) ?_
    refine .takeP 6 rfl (by decide) (y_move rfl) ?_
    refine .takeP 7 rfl (by decide) (y_sindex rfl rfl Tryd.underlying9 (by omega) (by simpa using hy)) ?_
    refine .takeP 8 rfl (by decide) (y_bitI rfl rfl) ?_
    rw [byte_xor]
    refine .takeP 9 rfl (by decide) (y_indexR rfl rfl Tryd.underlying76 F.sz5 (by omega) (by omega)) ?_
    have hel := fill_get (z := (0 : UInt8)) hxl hi'
    refine .sw (by decide) ?_
    refine .one 10 (by decide) rfl (o_storeR 0 i 0 rfl rfl rfl rfl rfl (by simp) (rowB_get hel) (by omega) F.sz5 ⟨Incl.none _ _, ?_⟩)
    rw [rowB_set]
    refine .done (by decide) ?_
    refine W.region ?_
    refine .op (.y (y_addN (j := 1) rfl rfl (by omega)) ?_)
    refine .op (.y (y_move rfl) ?_)
    refine .nil ?_
    rw [fill_set hxl hxy]
    exact ⟨i + 1, by first | omega | (simp only; omega), by first | omega | (simp only; omega), rfl, ⟨rfl, rfl, rfl, rfl, rfl, trivial⟩, at1 0 rfl, by simp⟩
  ·
    try simp only [decide_eq_true_eq, decide_eq_false_iff_not, Bool.not_eq_true', Bool.not_eq_false', Int.ofNat_lt, Int.ofNat_le, Int.not_lt, Nat.not_lt, Int.not_le, Nat.not_le, Int.natCast_inj, ne_eq, Decidable.not_not] at hc16
    refine W.exit ?_
    have hi' : i = m := by have h : ¬ ((i : Int) < m) := (by simpa using hc16); omega
    subst hi'
    rw [Nat.sub_self, List.replicate_zero, List.append_nil, List.take_of_length_le (by omega)]
    refine W.seq ?_
    refine W.region ?_
    refine .op (.y (y_move rfl) ?_)
    refine .op (.y (y_bytesR 0 rfl rfl Tryd.underlying76 Tryd.underlying5 Tryd.underlying9) ?_)
    refine .op (.y (y_assign rfl) ?_)
    refine .nil ?_
    refine W.ret ?_
    exact ret1 rfl rfl [] [] ⟨rfl, rfl, rfl⟩ (by simp) (by simp)
end Go.Proofs.Sep
