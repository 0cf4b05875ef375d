/- Go's slices, of texts, and of what may stand below a key. -/
import Derived.Test.YtpnhedlciamegaaDoorCode
import Derived.Test.YtpnhedlciamegaaDoorSepP
set_option linter.all false
set_option linter.unusedSimpArgs false
set_option linter.unnecessarySimpa false
set_option linter.deprecated false
set_option maxRecDepth 100000
set_option linter.unusedVariables false
namespace Go.Proofs.Sep
open Go Go.RowKit

def bels (l : List (List UInt8 × Int)) : List (List Value) := l.map fun p => [str p.1, .int .i64 p.2]
theorem bels_get {l : List (List UInt8 × Int)} {i : Nat} (h : i < l.length) : (bels l)[i]? = some [str (l.getD i ([], 0)).1, .int .i64 (l.getD i ([], 0)).2] := by simp [bels, h]
theorem below_eq (p q : List UInt8 × Int) (w : World) : (Op.equalIn (9998 + 1 + 1) 152 (.agg #[str p.1, .int .i64 p.2]) (.agg #[str q.1, .int .i64 q.2])).run Tryd.prog w = .ok (decide (p = q)) w := by
  have h := run_equal2 (P := Tryd.prog) (t := 152) Tryd.underlying152 (by kernel_rfl) (by decide) (by decide) rfl rfl F.sc9 F.sc3 9998 (fun w => run_eqStrIn (a := p.1) (b := q.1) Tryd.underlying9 9998 w) (fun w => run_eqIntIn (a := p.2) (b := q.2) Tryd.underlying3 9998 w) w
  rw [h]
  congr 1
  rw [Bool.eq_iff_iff]
  simp [Prod.ext_iff]
theorem slices_Index_below {φ : Frag} {v : Value} {l : List (List UInt8 × Int)} {p : List UInt8 × Int} (hv : Sl φ v 2 (bels l)) : Spec Tryd.prog 107 #[v, .agg #[str p.1, .int .i64 p.2]] [] [φ] (RetP fun u rs cs => (∃ r : Int, u = .int .i64 r ∧ (0 ≤ r ↔ p ∈ l)) ∧ rs = [] ∧ cs = []) := by
  refine Spec.body (args := [v, .agg #[str p.1, .int .i64 p.2]]) (n := 19) Tryd.func107 rfl Tryd.ntmps107 (by simp) fun w0 hw0 => ?_
  have hll := hv.len
  rw [show (bels l).length = l.length from by simp [bels]] at hll
  refine W.seq ?_
  refine W.region ?_
  refine .op (o_boxA (cs := [str p.1, .int .i64 p.2]) rfl (fun b3 hb3 => ?_))
  refine .op (.y (y_assign rfl) ?_)
  refine .nil ?_
  refine W.seq ?_
  refine W.seq ?_
  refine W.region ?_
  refine .op (.y (y_move rfl) ?_)
  refine .op (.y (y_lenS rfl hv Tryd.underlying156) ?_)
  rw [show (bels l).length = l.length from by simp [bels]]
  refine .op (.y (y_move rfl) ?_)
  refine .nil ?_
  refine W.block ?_
  refine W.loopI (ι := Nat) (fun i => i ≤ l.length ∧ p ∉ l.take i) (fun i => [(0, v), (3, ptr b3), (7, .int .i64 (l.length : Int)), (8, .int .i64 (i : Int))]) (fun i => [cel b3 152 [str p.1, .int .i64 p.2]]) (fun i => [φ]) (fun i => l.length - i) 0 (⟨by omega, by simp⟩)
    ⟨rfl, ⟨rfl, rfl, rfl, rfl, trivial⟩, at1 0 rfl, by simp⟩ ?_
  rintro i hG
  try simp only at hG ⊢
  obtain ⟨him, hnot⟩ := hG
  refine W.seq ?_
  refine W.region ?_
  refine .op (.y (y_lssN rfl rfl) ?_)
  refine .nil ?_
  refine W.seq ?_
  refine W.cond rfl (fun hc9 => ?_) (fun hc9 => ?_)
  ·
    try simp only [decide_eq_true_eq, decide_eq_false_iff_not, Bool.not_eq_true', Bool.not_eq_false', Int.ofNat_lt, Int.ofNat_le, Int.not_lt, Nat.not_lt, Int.not_le, Nat.not_le, Int.natCast_inj, ne_eq, Decidable.not_not] at hc9
    refine W.skip ?_
    refine W.seq ?_
    refine W.block ?_
    refine W.seq ?_
    refine W.region ?_
    refine .op (.y (y_move rfl) ?_)
    refine .op (.y (y_assign rfl) ?_)
    refine .nil ?_
    refine W.seq ?_
    refine W.draw F.mixed (true, [([], []), ([], []), ([], []), ([1, 2], [1, 2]), ([3], [3]), ([0, 4], [0, 4])]) [] (by kernel_rfl) _ _ (Incl.refl _ _) ?_
    refine .take 0 rfl (by decide) (y_loadA 0 rfl rfl (by simp) F.agg152) ?_
    refine .takeP 1 rfl (by decide) (y_move rfl) ?_
    refine .takeP 2 rfl (by decide) (y_move rfl) ?_
    refine .takeXP 3 rfl (by decide) (y_indexSN rfl hv rfl Tryd.underlying156 F.sz152 (bels_get hc9)) (fun v14 hv14 => ?_)
    refine .take 4 rfl (by decide) (y_loadPA 2 rfl hv14 (by simp) (by simp) F.agg152) ?_
    refine .takeP 5 rfl (by decide) (y_eqlE rfl rfl (by kernel_rfl) (below_eq p (l.getD i ([], 0)))) ?_
    refine .done (by decide) ?_
    refine W.cond rfl (fun hc16 => ?_) (fun hc16 => ?_)
    ·
      try simp only [decide_eq_true_eq, decide_eq_false_iff_not, Bool.not_eq_true', Bool.not_eq_false', Int.ofNat_lt, Int.ofNat_le, Int.not_lt, Nat.not_lt, Int.not_le, Nat.not_le, Int.natCast_inj, ne_eq, Decidable.not_not] at hc16
      have hmem : p ∈ l := by rw [hc16, List.getD_eq_getElem?_getD, List.getElem?_eq_getElem hc9]; exact List.getElem_mem hc9
      refine W.seq ?_
      refine W.region ?_
      refine .op (.y (y_move rfl) ?_)
      refine .op (.y (y_assign rfl) ?_)
      refine .nil ?_
      refine W.ret ?_
      exact ret1 rfl rfl [] [] ⟨_, rfl, ⟨_, rfl, by simp [hmem]⟩, rfl, rfl⟩ (by simp) (by simp)
    ·
      try simp only [decide_eq_true_eq, decide_eq_false_iff_not, Bool.not_eq_true', Bool.not_eq_false', Int.ofNat_lt, Int.ofNat_le, Int.not_lt, Nat.not_lt, Int.not_le, Nat.not_le, Int.natCast_inj, ne_eq, Decidable.not_not] at hc16
      refine W.skip ?_
      refine W.region ?_
      refine .op (.y (y_addN (j := 1) rfl rfl (by omega)) ?_)
      refine .op (.y (y_move rfl) ?_)
      refine .nil ?_
      exact ⟨i + 1, ⟨by omega, by rw [take_getD hc9 ([], 0)]; exact fun hm => (List.mem_append.1 hm).elim hnot fun h => hc16 (List.mem_singleton.1 h)⟩, by first | omega | (simp only; omega), rfl, ⟨rfl, rfl, rfl, rfl, trivial⟩, at1 0 rfl, by simp⟩
  ·
    try simp only [decide_eq_true_eq, decide_eq_false_iff_not, Bool.not_eq_true', Bool.not_eq_false', Int.ofNat_lt, Int.ofNat_le, Int.not_lt, Nat.not_lt, Int.not_le, Nat.not_le, Int.natCast_inj, ne_eq, Decidable.not_not] at hc9
    have hi' : i = l.length := by omega
    subst hi'
    rw [List.take_length] at hnot
    refine W.exit ?_
    refine W.seq ?_
    refine W.region ?_
    refine .op (.y (y_assign rfl) ?_)
    refine .nil ?_
    refine W.ret ?_
    exact ret1 rfl rfl [] [] ⟨_, rfl, ⟨_, rfl, by simp [hnot]⟩, rfl, rfl⟩ (by simp) (by simp)
theorem slices_Contains_below {φ : Frag} {v : Value} {l : List (List UInt8 × Int)} {p : List UInt8 × Int} (hv : Sl φ v 2 (bels l)) : Spec Tryd.prog 92 #[v, .agg #[str p.1, .int .i64 p.2]] [] [φ] (Val (.bool (decide (p ∈ l)))) := by
  refine Spec.body (args := [v, .agg #[str p.1, .int .i64 p.2]]) (n := 9) Tryd.func92 rfl Tryd.ntmps92 (by simp) fun w0 hw0 => ?_
  refine W.seq ?_
  refine W.region ?_
  refine .op (o_boxA (cs := [str p.1, .int .i64 p.2]) rfl (fun b3 hb3 => ?_))
  refine .op (.y (y_assign rfl) ?_)
  refine .nil ?_
  refine W.seq ?_
  refine W.region ?_
  refine .op (.y (y_move rfl) ?_)
  refine .op (.y (y_loadA 0 rfl rfl (by simp) F.agg152) ?_)
  refine .op (o_call (slices_Index_below (p := p) hv) F.cal107 rfl rfl rfl (by simp) (fun v rs' cs' hv => ?_))
  obtain ⟨⟨r, rfl, hr⟩, rfl, rfl⟩ := hv
  refine .op (.y (y_geq rfl rfl) ?_)
  rw [show decide ((0 : Int) ≤ r) = decide (p ∈ l) from by rw [decide_eq_decide]; exact hr]
  refine .op (.y (y_assign rfl) ?_)
  refine .nil ?_
  refine W.ret ?_
  exact ret1 rfl rfl [] [] ⟨rfl, rfl, rfl⟩ (by simp) (by simp)
theorem slices_Grow_str {m : Nat} (hm : m * 16 ≤ 140737488355328) : Spec Tryd.prog 110 #[.slice none 0 0, .int .i64 (m : Int)] [] [] (RetP fun u rs cs => rs = [.row u 9 1 []] ∧ cs = []) := by
  refine Spec.body (args := [.slice none 0 0, .int .i64 (m : Int)]) (n := 27) Tryd.func110 rfl Tryd.ntmps110 (by simp) fun w0 hw0 => ?_
  refine W.seq ?_
  refine W.region ?_
  refine .op (.y (y_assign rfl) ?_)
  refine .nil ?_
  refine W.seq ?_
  refine W.seq ?_
  refine W.region ?_
  refine .op (.y (y_move rfl) ?_)
  refine .op (.y (y_lssN (j := 0) rfl rfl) ?_)
  rw [show decide (m < 0) = false from by simp]
  refine .nil ?_
  refine W.condF (rfl) ?_
  refine W.skip ?_
  refine W.seq ?_
  refine W.seq ?_
  refine W.region ?_
  refine .op (.y (y_move rfl) ?_)
  refine .op (.y (y_move rfl) ?_)
  refine .op (.y (y_cap rfl Tryd.underlying26) ?_)
  refine .op (.y (y_move rfl) ?_)
  refine .op (.y (y_len rfl Tryd.underlying26) ?_)
  refine .op (.y (y_subN (i := 0) (j := 0) rfl rfl (by omega) (by omega)) ?_)
  refine .op (.y (y_subN (i := m) (j := 0) rfl rfl (by omega) (by omega)) ?_)
  refine .op (.y (y_assign rfl) ?_)
  refine .nil ?_
  refine W.seq ?_
  refine W.region ?_
  refine .op (.y (y_move rfl) ?_)
  refine .op (.y (y_gtrN (i := m - 0) (j := 0) rfl rfl) ?_)
  refine .nil ?_
  refine W.cond rfl (fun hc16 => ?_) (fun hc16 => ?_)
  ·
    try simp only [decide_eq_true_eq, decide_eq_false_iff_not, Bool.not_eq_true', Bool.not_eq_false', Int.ofNat_lt, Int.ofNat_le, Int.not_lt, Nat.not_lt, Int.not_le, Nat.not_le, Int.natCast_inj, ne_eq, Decidable.not_not] at hc16
    refine W.region ?_
    refine .op (.y (y_move rfl) ?_)
    refine .op (.y (y_move rfl) ?_)
    refine .op (.y (y_cap rfl Tryd.underlying26) ?_)
    refine .op (.y (y_sliceG (i := 0) (j := 0) rfl Tryd.underlying26 F.sz9 rfl (by exact ⟨_, rfl⟩) (by omega) (by omega)) ?_)
    simp only [Nat.sub_self, ite_true]
    refine .op (.y (y_move rfl) ?_)
    refine .op (o_appendZ (sz := 1) (m := m - 0) (l := 0) (c := 0) [] rfl rfl Tryd.underlying26 Tryd.underlying3 F.ze9 rfl (by omega) (by simp) (fun w hst => ⟨by simp, by simp⟩) (by omega) (by omega) (by omega) (by omega) (fun gb cap tail hgb hcap hmax htl => ?_))
    refine .op (.y (y_move rfl) ?_)
    refine .op (.y (y_len rfl Tryd.underlying26) ?_)
    refine .op (.y (y_sliceC (i := 0) (j := 0) rfl Tryd.underlying26 F.sz9 rfl (by exact ⟨_, rfl⟩) (by omega) (by omega)) ?_)
    simp only [Nat.zero_mul, Nat.add_zero, ite_self, Nat.sub_zero, Nat.sub_self]
    refine .op (.y (y_assign rfl) ?_)
    refine .nil ?_
    refine W.seq ?_
    refine W.region ?_
    refine .op (.y (y_move rfl) ?_)
    refine .op (.y (y_assign rfl) ?_)
    refine .nil ?_
    refine W.celRow (sz := 1) (cap := cap) 0 [] rfl (by simp) (by simp) hmax (by simp [htl]) (by simp) ?_
    refine W.ret ?_
    exact ret1 rfl rfl [.row (.slice (some ⟨gb, 0, none⟩) 0 cap) 9 1 []] [] ⟨_, rfl, rfl, rfl⟩ (List.Sublist.refl _) (by simp)
  ·
    try simp only [decide_eq_true_eq, decide_eq_false_iff_not, Bool.not_eq_true', Bool.not_eq_false', Int.ofNat_lt, Int.ofNat_le, Int.not_lt, Nat.not_lt, Int.not_le, Nat.not_le, Int.natCast_inj, ne_eq, Decidable.not_not] at hc16
    refine W.skip ?_
    refine W.seq ?_
    refine W.region ?_
    refine .op (.y (y_move rfl) ?_)
    refine .op (.y (y_assign rfl) ?_)
    refine .nil ?_
    refine W.nilRow 9 1 ?_
    refine W.ret ?_
    exact ret1 rfl rfl [.row (.slice none 0 0) 9 1 []] [] ⟨_, rfl, rfl, rfl⟩ (List.Sublist.refl _) (by simp)
theorem slices_Concat_str {φ : Frag} {Fv : List Frag} {v : Value} {vs : List Value} {ls : List (List (List UInt8))} (hv : Sl φ v 1 (vs.map fun u => [u])) (hlen : ls.length = vs.length) (hs : ∀ i, i < vs.length → ∃ ψ ∈ Fv, Sl ψ (vs.getD i .nilFunc) 1 (strs (ls.getD i []))) (hb : ls.flatten.length * 16 ≤ 140737488355328) : Spec Tryd.prog 94 #[v] [] (φ :: Fv) (RetP fun u rs cs => rs = [.row u 9 1 (strs ls.flatten)] ∧ cs = []) := by
  refine Spec.body (args := [v]) (n := 36) Tryd.func94 rfl Tryd.ntmps94 (by simp) fun w0 hw0 => ?_
  have hll := hv.len
  rw [List.length_map] at hll
  refine W.seq ?_
  refine W.region ?_
  refine .op (.y (y_assign rfl) ?_)
  refine .nil ?_
  refine W.seq ?_
  refine W.region ?_
  refine .op (.y (y_assign rfl) ?_)
  refine .nil ?_
  refine W.seq ?_
  refine W.seq ?_
  refine W.region ?_
  refine .op (.y (y_move rfl) ?_)
  refine .op (.y (y_lenS rfl hv Tryd.underlying179) ?_)
  rw [List.length_map]
  refine .op (.y (y_move rfl) ?_)
  refine .nil ?_
  refine W.block ?_
  refine W.loopI (ι := Nat) (fun i => i ≤ vs.length) (fun i => [(0, v), (3, .int .i64 ((ls.take i).flatten.length : Int)), (9, v), (10, .int .i64 (vs.length : Int)), (11, .int .i64 (i : Int))]) (fun i => []) (fun i => φ :: Fv) (fun i => vs.length - i) 0 (by simp)
    ⟨rfl, ⟨rfl, rfl, rfl, rfl, rfl, trivial⟩, at0, by simp⟩ ?_
  rintro i hG
  try simp only at hG ⊢
  refine W.seq ?_
  refine W.region ?_
  refine .op (.y (y_lssN rfl rfl) ?_)
  refine .nil ?_
  refine W.seq ?_
  refine W.cond rfl (fun hc12 => ?_) (fun hc12 => ?_)
  ·
    try simp only [decide_eq_true_eq, decide_eq_false_iff_not, Bool.not_eq_true', Bool.not_eq_false', Int.ofNat_lt, Int.ofNat_le, Int.not_lt, Nat.not_lt, Int.not_le, Nat.not_le, Int.natCast_inj, ne_eq, Decidable.not_not] at hc12
    obtain ⟨ψ, hψ, hsl⟩ := hs i hc12
    have hft := flat_take (l := ls) (i := i) (by omega)
    refine W.skip ?_
    refine W.seq ?_
    refine W.block ?_
    refine W.seq ?_
    refine W.region ?_
    refine .op (.yx (y_indexSN (el := [vs.getD i .nilFunc]) rfl hv rfl Tryd.underlying179 F.sz26 (by simp [hc12])) (fun v13 hv13 => ?_))
    refine .op (.y (y_loadP rfl hv13 rfl (by simp) F.sc26) ?_)
    refine .op (.y (y_assign rfl) ?_)
    refine .nil ?_
    refine W.seq ?_
    refine W.region ?_
    refine .op (.y (y_move rfl) ?_)
    refine .op (.y (y_move rfl) ?_)
    refine .op (.y (y_lenS rfl hsl Tryd.underlying26) ?_)
    rw [strs_len]
    refine .op (.y (y_addN rfl rfl (by omega)) ?_)
    refine .op (.y (y_assign rfl) ?_)
    refine .nil ?_
    refine W.seq ?_
    refine W.region ?_
    refine .op (.y (y_move rfl) ?_)
    refine .op (.y (y_lssN (j := 0) rfl rfl) ?_)
    rw [show decide ((ls.take i).flatten.length + (ls.getD i []).length < 0) = false from by simp]
    refine .nil ?_
    refine W.condF (rfl) ?_
    refine W.skip ?_
    refine W.region ?_
    refine .op (.y (y_addN (j := 1) rfl rfl (by omega)) ?_)
    refine .op (.y (y_move rfl) ?_)
    refine .nil ?_
    have htk : (ls.take (i + 1)).flatten.length = (ls.take i).flatten.length + (ls.getD i []).length := by rw [take_getD (by omega) [], List.flatten_append, List.length_append]; simp
    exact ⟨i + 1, by first | omega | (simp only; omega), by first | omega | (simp only; omega), rfl, ⟨rfl, by rw [htk]; rfl, rfl, rfl, rfl, trivial⟩, at0, by simp⟩
  ·
    try simp only [decide_eq_true_eq, decide_eq_false_iff_not, Bool.not_eq_true', Bool.not_eq_false', Int.ofNat_lt, Int.ofNat_le, Int.not_lt, Nat.not_lt, Int.not_le, Nat.not_le, Int.natCast_inj, ne_eq, Decidable.not_not] at hc12
    refine W.exit ?_
    obtain rfl : i = vs.length := by omega
    rw [← hlen, List.take_length]
    refine W.seq ?_
    refine W.region ?_
    refine .op (.y (y_move rfl) ?_)
    refine .op (o_call (slices_Grow_str (m := ls.flatten.length) hb) F.cal110 rfl rfl rfl (by simp) (fun v24 rs' cs' hv24 => ?_))
    obtain ⟨rfl, rfl⟩ := hv24
    refine .op (.y (y_assign rfl) ?_)
    refine .nil ?_
    refine W.seq ?_
    refine W.seq ?_
    refine W.region ?_
    refine .op (.y (y_move rfl) ?_)
    refine .op (.y (y_lenS rfl hv Tryd.underlying179) ?_)
    rw [List.length_map]
    refine .op (.y (y_move rfl) ?_)
    refine .nil ?_
    refine W.block ?_
    refine W.loopI (ι := Nat × Value) (fun ⟨i, u⟩ => i ≤ vs.length) (fun ⟨i, u⟩ => [(6, u), (25, v), (26, .int .i64 (vs.length : Int)), (27, .int .i64 (i : Int))]) (fun ⟨i, u⟩ => [.row u 9 1 (strs (ls.take i).flatten)]) (fun ⟨i, u⟩ => φ :: Fv) (fun ⟨i, u⟩ => vs.length - i) (0, v24) (by simp)
      ⟨rfl, ⟨rfl, rfl, rfl, rfl, trivial⟩, at1 0 rfl, by simp⟩ ?_
    rintro ⟨i, u⟩ hG
    try simp only at hG ⊢
    refine W.seq ?_
    refine W.region ?_
    refine .op (.y (y_lssN rfl rfl) ?_)
    refine .nil ?_
    refine W.seq ?_
    refine W.cond rfl (fun hc28 => ?_) (fun hc28 => ?_)
    ·
      try simp only [decide_eq_true_eq, decide_eq_false_iff_not, Bool.not_eq_true', Bool.not_eq_false', Int.ofNat_lt, Int.ofNat_le, Int.not_lt, Nat.not_lt, Int.not_le, Nat.not_le, Int.natCast_inj, ne_eq, Decidable.not_not] at hc28
      obtain ⟨ψ, hψ, hsl⟩ := hs i hc28
      have hft := flat_take (l := ls) (i := i) (by omega)
      have hfl : (ls.take i).flatten.length + (ls.getD i []).length ≤ ls.flatten.length := hft
      refine W.skip ?_
      refine W.seq ?_
      refine W.block ?_
      refine W.seq ?_
      refine W.region ?_
      refine .op (.yx (y_indexSN (el := [vs.getD i .nilFunc]) rfl hv rfl Tryd.underlying179 F.sz26 (by simp [hc28])) (fun v29 hv29 => ?_))
      refine .op (.y (y_loadP rfl hv29 rfl (by simp) F.sc26) ?_)
      refine .op (.y (y_assign rfl) ?_)
      refine .nil ?_
      refine W.region ?_
      refine .op (.y (y_move rfl) ?_)
      refine .op (.y (y_move rfl) ?_)
      refine .op (o_append 0 rfl rfl rfl (.inr ⟨ψ, by simp [hψ], hsl⟩) Tryd.underlying26 F.ze9 rfl (by omega) (by rw [strs_len, strs_len]; omega) (by omega) strs_cells (fun v' hv' hE => ?_))
      refine .op (.y (y_assign rfl) ?_)
      refine .nil ?_
      refine W.region ?_
      refine .op (.y (y_addN (j := 1) rfl rfl (by omega)) ?_)
      refine .op (.y (y_move rfl) ?_)
      refine .nil ?_
      have htk : strs (ls.take (i + 1)).flatten = strs (ls.take i).flatten ++ strs (ls.getD i []) := by rw [take_getD (by omega) [], List.flatten_append, strs_app]; simp
      exact ⟨(i + 1, v'), by first | omega | (simp only; omega), by first | omega | (simp only; omega), rfl, ⟨rfl, rfl, rfl, rfl, trivial⟩, by rw [htk]; exact at1 0 rfl, by simp⟩
    ·
      try simp only [decide_eq_true_eq, decide_eq_false_iff_not, Bool.not_eq_true', Bool.not_eq_false', Int.ofNat_lt, Int.ofNat_le, Int.not_lt, Nat.not_lt, Int.not_le, Nat.not_le, Int.natCast_inj, ne_eq, Decidable.not_not] at hc28
      refine W.exit ?_
      obtain rfl : i = vs.length := by omega
      rw [← hlen, List.take_length]
      refine W.seq ?_
      refine W.region ?_
      refine .op (.y (y_move rfl) ?_)
      refine .op (.y (y_assign rfl) ?_)
      refine .nil ?_
      refine W.ret ?_
      exact ret1 rfl rfl [.row u 9 1 (strs ls.flatten)] [] ⟨_, rfl, rfl, rfl⟩ (List.Sublist.refl _) (by simp)
end Go.Proofs.Sep
