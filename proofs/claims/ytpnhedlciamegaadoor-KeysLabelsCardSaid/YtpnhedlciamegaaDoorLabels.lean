/- KeysLabels: its calls. -/
import Derived.Test.YtpnhedlciamegaaDoorSplit
import Derived.Test.YtpnhedlciamegaaDoorSepR
set_option linter.all false
set_option linter.unusedSimpArgs false
set_option linter.unnecessarySimpa false
set_option linter.deprecated false
set_option maxRecDepth 100000
set_option linter.unusedVariables false
namespace Go.Proofs.Sep
open Go Go.RowKit

/-- So small that it is looked at. -/
def fewP (kind bytes : List UInt8) (l : List (List UInt8)) : Prop := kind.length ≤ 150 ∧ l.length ≤ 8 ∧ bytes.length ≤ 150 ∧ ∀ s ∈ l, s.length ≤ 150
theorem all_getD {l : List (List UInt8)} {i : Nat} (h : ∀ j, j < i → (l.getD j []).length ≤ 150) (hi : l.length ≤ i) : ∀ s ∈ l, s.length ≤ 150 := by
  intro s hs
  obtain ⟨j, hj, rfl⟩ := List.getElem_of_mem hs
  have := h j (by omega)
  rwa [List.getD_eq_getElem?_getD, List.getElem?_eq_getElem hj] at this
theorem law14_few {φ : Frag} {kind kb : List UInt8} {pv : Value} {l : List (List UInt8)} (hv : Sl φ pv 1 (strs l)) : Spec Tryd.prog 10 #[keyV kind pv kb] [] [φ] (RetP fun u rs cs => (∃ r : Bool, u = .bool r ∧ (r = true → fewP kind kb l)) ∧ rs = [] ∧ cs = []) := by
  refine Spec.body (args := [keyV kind pv kb]) (n := 38) Tryd.func10 rfl Tryd.ntmps10 (by simp) fun w0 hw0 => ?_
  have hll := hv.len
  rw [strs_len] at hll
  have h1a : pv.oneCell' = true := (by obtain ⟨A, c, rfl, _⟩ := hv.form; rfl)
  refine W.seq ?_
  refine W.region ?_
  refine .op (o_boxC (cs := [str kind, pv, str kb]) rfl rfl (fun b1 hb1 => ?_))
  refine .op (.y (y_assign rfl) ?_)
  refine .nil ?_
  refine W.seq ?_
  refine W.seq ?_
  refine W.region ?_
  refine .op (.y (y_assign rfl) ?_)
  refine .nil ?_
  refine W.block ?_
  -- LIVE SLOTS WITHOUT A TERM: [10, 11, 27, 28, 29, 30, 33, 34, 35, 36]
  refine W.loopI (ι := Nat) (fun i => i ≤ l.length ∧ ∀ j, j < i → (l.getD j []).length ≤ 150) (fun i => [(1, ptr b1), (3, .int .i64 (i : Int))]) (fun i => [cel b1 28 [str kind, pv, str kb]]) (fun i => [φ]) (fun i => l.length - i) 0 (⟨by omega, fun j hj => by omega⟩)
    ⟨rfl, ⟨rfl, rfl, trivial⟩, at1 0 rfl, by simp⟩ ?_
  rintro i hG
  try simp only at hG ⊢
  obtain ⟨him, hall0⟩ := hG
  refine W.seq ?_
  refine W.seq ?_
  refine W.region ?_
  refine .op (.y (y_move rfl) ?_)
  refine .op (.y (y_field rfl F.fld28_1) ?_)
  refine .op (.y (y_load 0 rfl rfl rfl F.sc26) ?_)
  refine .op (.y (y_lenS rfl hv Tryd.underlying26) ?_)
  rw [strs_len]
  refine .op (.y (y_lssN rfl rfl) ?_)
  refine .op (.y (y_move rfl) ?_)
  refine .caseB 9 rfl (fun hs9 => ?_) (fun hs9 => ?_)
  ·
    have hlt : i < l.length := by simpa using hs9
    refine .op (.y (y_move rfl) ?_)
    refine .op (.y (y_leqN (j := 8) rfl rfl) ?_)
    refine .op (.y (y_pick rfl rfl) ?_)
    refine .nil ?_
    refine W.cond rfl (fun hc12 => ?_) (fun hc12 => ?_)
    ·
      try simp only [decide_eq_true_eq, decide_eq_false_iff_not, Bool.not_eq_true', Bool.not_eq_false', Int.ofNat_lt, Int.ofNat_le, Int.not_lt, Nat.not_lt, Int.not_le, Nat.not_le, Int.natCast_inj, ne_eq, Decidable.not_not] at hc12
      refine W.skip ?_
      refine W.seq ?_
      refine W.block ?_
      refine W.seq ?_
      refine W.region ?_
      refine .op (.y (y_field rfl F.fld28_1) ?_)
      refine .op (.y (y_load 0 rfl rfl rfl F.sc26) ?_)
      refine .op (.y (y_move rfl) ?_)
      refine .op (.yx (y_indexSN rfl hv rfl Tryd.underlying26 F.sz9 (strs_get hlt)) (fun v18 hv18 => ?_))
      refine .op (.y (y_loadP rfl hv18 rfl (by simp) F.sc9) ?_)
      refine .op (.y (y_slen rfl Tryd.underlying9) ?_)
      refine .op (.y (y_gtrN (j := 150) rfl rfl) ?_)
      refine .nil ?_
      refine W.cond rfl (fun hc21 => ?_) (fun hc21 => ?_)
      ·
        try simp only [decide_eq_true_eq, decide_eq_false_iff_not, Bool.not_eq_true', Bool.not_eq_false', Int.ofNat_lt, Int.ofNat_le, Int.not_lt, Nat.not_lt, Int.not_le, Nat.not_le, Int.natCast_inj, ne_eq, Decidable.not_not] at hc21
        refine W.seq ?_
        refine W.region ?_
        refine .op (.y (y_assign rfl) ?_)
        refine .nil ?_
        refine W.ret ?_
        exact ret1 rfl rfl [] [] ⟨_, rfl, ⟨_, rfl, fun h => by first | cases h | exact ⟨of_decide_eq_true hs26, of_decide_eq_true hs32, of_decide_eq_true h, hall (of_decide_eq_true hs32)⟩⟩, rfl, rfl⟩ (by simp) (by simp)
      ·
        try simp only [decide_eq_true_eq, decide_eq_false_iff_not, Bool.not_eq_true', Bool.not_eq_false', Int.ofNat_lt, Int.ofNat_le, Int.not_lt, Nat.not_lt, Int.not_le, Nat.not_le, Int.natCast_inj, ne_eq, Decidable.not_not] at hc21
        refine W.skip ?_
        refine W.region ?_
        refine .op (.y (y_move rfl) ?_)
        refine .op (.y (y_addN (j := 1) rfl rfl (by omega)) ?_)
        refine .op (.y (y_assign rfl) ?_)
        refine .nil ?_
        exact ⟨i + 1, ⟨by omega, fun j hj => (Nat.lt_or_ge j i).elim (hall0 j) fun h => by have e : j = i := Nat.le_antisymm (Nat.le_of_lt_succ hj) h; rw [e]; exact hc21⟩, by first | omega | (simp only; omega), rfl, ⟨rfl, rfl, trivial⟩, at1 0 rfl, by simp⟩
    ·
      try simp only [decide_eq_true_eq, decide_eq_false_iff_not, Bool.not_eq_true', Bool.not_eq_false', Int.ofNat_lt, Int.ofNat_le, Int.not_lt, Nat.not_lt, Int.not_le, Nat.not_le, Int.natCast_inj, ne_eq, Decidable.not_not] at hc12
      refine W.exit ?_
      have hall : l.length ≤ 8 → ∀ s ∈ l, s.length ≤ 150 := fun h8 => all_getD hall0 (by omega)
      refine W.seq ?_
      refine W.region ?_
      refine .op (.y (y_field rfl F.fld28_0) ?_)
      refine .op (.y (y_load 0 rfl rfl rfl F.sc9) ?_)
      refine .op (.y (y_slen rfl Tryd.underlying9) ?_)
      refine .op (.y (y_leqN (j := 150) rfl rfl) ?_)
      refine .op (.y (y_move rfl) ?_)
      refine .caseB 26 rfl (fun hs26 => ?_) (fun hs26 => ?_)
      ·
        refine .op (.y (y_field rfl F.fld28_1) ?_)
        refine .op (.y (y_load 0 rfl rfl rfl F.sc26) ?_)
        refine .op (.y (y_lenS rfl hv Tryd.underlying26) ?_)
        try rw [strs_len]
        refine .op (.y (y_leqN (j := 8) rfl rfl) ?_)
        refine .op (.y (y_pick rfl rfl) ?_)
        refine .op (.y (y_move rfl) ?_)
        refine .caseB 32 rfl (fun hs32 => ?_) (fun hs32 => ?_)
        ·
          refine .op (.y (y_field rfl F.fld28_2) ?_)
          refine .op (.y (y_load 0 rfl rfl rfl F.sc9) ?_)
          refine .op (.y (y_slen rfl Tryd.underlying9) ?_)
          refine .op (.y (y_leqN (j := 150) rfl rfl) ?_)
          refine .op (.y (y_pick rfl rfl) ?_)
          refine .op (.y (y_assign rfl) ?_)
          refine .nil ?_
          refine W.ret ?_
          exact ret1 rfl rfl [] [] ⟨_, rfl, ⟨_, rfl, fun h => by first | cases h | exact ⟨of_decide_eq_true hs26, of_decide_eq_true hs32, of_decide_eq_true h, hall (of_decide_eq_true hs32)⟩⟩, rfl, rfl⟩ (by simp) (by simp)
        ·
          refine .off rfl rfl rfl ?_
          refine .off rfl rfl rfl ?_
          refine .off rfl rfl rfl ?_
          refine .off rfl rfl rfl ?_
          refine .op (.y (y_pick rfl rfl) ?_)
          refine .op (.y (y_assign rfl) ?_)
          refine .nil ?_
          refine W.ret ?_
          exact ret1 rfl rfl [] [] ⟨_, rfl, ⟨_, rfl, fun h => by first | cases h | exact ⟨of_decide_eq_true hs26, of_decide_eq_true hs32, of_decide_eq_true h, hall (of_decide_eq_true hs32)⟩⟩, rfl, rfl⟩ (by simp) (by simp)
      ·
        refine .off rfl rfl rfl ?_
        refine .off rfl rfl rfl ?_
        refine .off rfl rfl rfl ?_
        try rw [strs_len]
        refine .off rfl rfl rfl ?_
        refine .op (.y (y_pick rfl rfl) ?_)
        refine .op (.y (y_move rfl) ?_)
        refine .off rfl rfl rfl ?_
        refine .off rfl rfl rfl ?_
        refine .off rfl rfl rfl ?_
        refine .off rfl rfl rfl ?_
        refine .op (.y (y_pick rfl rfl) ?_)
        refine .op (.y (y_assign rfl) ?_)
        refine .nil ?_
        refine W.ret ?_
        exact ret1 rfl rfl [] [] ⟨_, rfl, ⟨_, rfl, fun h => by first | cases h | exact ⟨of_decide_eq_true hs26, of_decide_eq_true hs32, of_decide_eq_true h, hall (of_decide_eq_true hs32)⟩⟩, rfl, rfl⟩ (by simp) (by simp)
  ·
    have hge : ¬ i < l.length := by simpa using hs9
    refine .off rfl rfl rfl ?_
    refine .off rfl rfl rfl ?_
    refine .op (.y (y_pick rfl rfl) ?_)
    refine .nil ?_
    refine W.condF (rfl) ?_
    refine W.exit ?_
    have hall : l.length ≤ 8 → ∀ s ∈ l, s.length ≤ 150 := fun h8 => all_getD hall0 (by omega)
    refine W.seq ?_
    refine W.region ?_
    refine .op (.y (y_field rfl F.fld28_0) ?_)
    refine .op (.y (y_load 0 rfl rfl rfl F.sc9) ?_)
    refine .op (.y (y_slen rfl Tryd.underlying9) ?_)
    refine .op (.y (y_leqN (j := 150) rfl rfl) ?_)
    refine .op (.y (y_move rfl) ?_)
    refine .caseB 26 rfl (fun hs26 => ?_) (fun hs26 => ?_)
    ·
      refine .op (.y (y_field rfl F.fld28_1) ?_)
      refine .op (.y (y_load 0 rfl rfl rfl F.sc26) ?_)
      refine .op (.y (y_lenS rfl hv Tryd.underlying26) ?_)
      try rw [strs_len]
      refine .op (.y (y_leqN (j := 8) rfl rfl) ?_)
      refine .op (.y (y_pick rfl rfl) ?_)
      refine .op (.y (y_move rfl) ?_)
      refine .caseB 32 rfl (fun hs32 => ?_) (fun hs32 => ?_)
      ·
        refine .op (.y (y_field rfl F.fld28_2) ?_)
        refine .op (.y (y_load 0 rfl rfl rfl F.sc9) ?_)
        refine .op (.y (y_slen rfl Tryd.underlying9) ?_)
        refine .op (.y (y_leqN (j := 150) rfl rfl) ?_)
        refine .op (.y (y_pick rfl rfl) ?_)
        refine .op (.y (y_assign rfl) ?_)
        refine .nil ?_
        refine W.ret ?_
        exact ret1 rfl rfl [] [] ⟨_, rfl, ⟨_, rfl, fun h => by first | cases h | exact ⟨of_decide_eq_true hs26, of_decide_eq_true hs32, of_decide_eq_true h, hall (of_decide_eq_true hs32)⟩⟩, rfl, rfl⟩ (by simp) (by simp)
      ·
        refine .off rfl rfl rfl ?_
        refine .off rfl rfl rfl ?_
        refine .off rfl rfl rfl ?_
        refine .off rfl rfl rfl ?_
        refine .op (.y (y_pick rfl rfl) ?_)
        refine .op (.y (y_assign rfl) ?_)
        refine .nil ?_
        refine W.ret ?_
        exact ret1 rfl rfl [] [] ⟨_, rfl, ⟨_, rfl, fun h => by first | cases h | exact ⟨of_decide_eq_true hs26, of_decide_eq_true hs32, of_decide_eq_true h, hall (of_decide_eq_true hs32)⟩⟩, rfl, rfl⟩ (by simp) (by simp)
    ·
      refine .off rfl rfl rfl ?_
      refine .off rfl rfl rfl ?_
      refine .off rfl rfl rfl ?_
      try rw [strs_len]
      refine .off rfl rfl rfl ?_
      refine .op (.y (y_pick rfl rfl) ?_)
      refine .op (.y (y_move rfl) ?_)
      refine .off rfl rfl rfl ?_
      refine .off rfl rfl rfl ?_
      refine .off rfl rfl rfl ?_
      refine .off rfl rfl rfl ?_
      refine .op (.y (y_pick rfl rfl) ?_)
      refine .op (.y (y_assign rfl) ?_)
      refine .nil ?_
      refine W.ret ?_
      exact ret1 rfl rfl [] [] ⟨_, rfl, ⟨_, rfl, fun h => by first | cases h | exact ⟨of_decide_eq_true hs26, of_decide_eq_true hs32, of_decide_eq_true h, hall (of_decide_eq_true hs32)⟩⟩, rfl, rfl⟩ (by simp) (by simp)
theorem ref_Texts {φ φ2 : Frag} {u v : Value} {l m : List (List UInt8)} (hu : Sl φ u 1 (strs l)) (hv : Sl φ2 v 1 (strs m)) : Spec Tryd.prog 11 #[u, v] [] [φ, φ2] (Val (.bool (decide (l = m)))) := by
  refine Spec.body (args := [u, v]) (n := 26) Tryd.func11 rfl Tryd.ntmps11 (by simp) fun w0 hw0 => ?_
  have hll := hu.len
  rw [strs_len] at hll
  refine W.seq ?_
  refine W.region ?_
  refine .op (.y (y_assign rfl) ?_)
  refine .nil ?_
  refine W.seq ?_
  refine W.seq ?_
  refine W.region ?_
  refine .op (.y (y_move rfl) ?_)
  refine .op (.y (y_lenS rfl hu Tryd.underlying26) ?_)
  rw [strs_len]
  refine .op (.y (y_move rfl) ?_)
  refine .op (.y (y_lenS rfl hv Tryd.underlying26) ?_)
  rw [strs_len]
  refine .op (.y (y_neqN rfl rfl) ?_)
  refine .nil ?_
  refine W.cond rfl (fun hc10 => ?_) (fun hc10 => ?_)
  ·
    try simp only [decide_eq_true_eq, decide_eq_false_iff_not, Bool.not_eq_true', Bool.not_eq_false', Int.ofNat_lt, Int.ofNat_le, Int.not_lt, Nat.not_lt, Int.not_le, Nat.not_le, Int.natCast_inj, ne_eq, Decidable.not_not] at hc10
    refine W.seq ?_
    refine W.region ?_
    refine .op (.y (y_assign rfl) ?_)
    refine .nil ?_
    refine W.ret ?_
    exact ret1 rfl rfl [] [] ⟨by rw [decide_eq_false (fun h => hc10 (by rw [h]))], rfl, rfl⟩ (by simp) (by simp)
  ·
    try simp only [decide_eq_true_eq, decide_eq_false_iff_not, Bool.not_eq_true', Bool.not_eq_false', Int.ofNat_lt, Int.ofNat_le, Int.not_lt, Nat.not_lt, Int.not_le, Nat.not_le, Int.natCast_inj, ne_eq, Decidable.not_not] at hc10
    refine W.skip ?_
    refine W.seq ?_
    refine W.seq ?_
    refine W.region ?_
    refine .op (.y (y_assign rfl) ?_)
    refine .nil ?_
    refine W.block ?_
    refine W.loopI (ι := Nat) (fun i => i ≤ l.length ∧ l.take i = m.take i) (fun i => [(0, u), (1, v), (5, .int .i64 (i : Int))]) (fun i => []) (fun i => [φ, φ2]) (fun i => l.length - i) 0 (⟨by omega, by simp⟩)
      ⟨rfl, ⟨rfl, rfl, rfl, trivial⟩, at0, by simp⟩ ?_
    rintro i hG
    try simp only at hG ⊢
    obtain ⟨him, htk⟩ := hG
    refine W.seq ?_
    refine W.seq ?_
    refine W.region ?_
    refine .op (.y (y_move rfl) ?_)
    refine .op (.y (y_move rfl) ?_)
    refine .op (.y (y_lenS rfl hu Tryd.underlying26) ?_)
    rw [strs_len]
    refine .op (.y (y_lssN rfl rfl) ?_)
    refine .nil ?_
    refine W.cond rfl (fun hc14 => ?_) (fun hc14 => ?_)
    ·
      try simp only [decide_eq_true_eq, decide_eq_false_iff_not, Bool.not_eq_true', Bool.not_eq_false', Int.ofNat_lt, Int.ofNat_le, Int.not_lt, Nat.not_lt, Int.not_le, Nat.not_le, Int.natCast_inj, ne_eq, Decidable.not_not] at hc14
      refine W.skip ?_
      refine W.seq ?_
      refine W.block ?_
      refine W.seq ?_
      refine W.draw F.mixed (true, [([], []), ([], []), ([0, 1], [0, 1]), ([2], [2]), ([], []), ([], []), ([4, 5], [4, 5]), ([6], [6]), ([3, 7], [3, 7])]) [] (by kernel_rfl) _ _ (Incl.refl _ _) ?_
      refine .takeP 0 rfl (by decide) (y_move rfl) ?_
      refine .takeP 1 rfl (by decide) (y_move rfl) ?_
      refine .takeXP 2 rfl (by decide) (y_indexSN rfl hu rfl Tryd.underlying26 F.sz9 (strs_get hc14)) (fun v19 hv19 => ?_)
      refine .take 3 rfl (by decide) (y_loadP rfl hv19 rfl (by simp) F.sc9) ?_
      refine .takeP 4 rfl (by decide) (y_move rfl) ?_
      refine .takeP 5 rfl (by decide) (y_move rfl) ?_
      refine .takeXP 6 rfl (by decide) (y_indexSN rfl hv rfl Tryd.underlying26 F.sz9 (strs_get (by omega))) (fun v23 hv23 => ?_)
      refine .take 7 rfl (by decide) (y_loadP rfl hv23 rfl (by simp) F.sc9) ?_
      refine .takeP 8 rfl (by decide) (y_sneq rfl rfl) ?_
      refine .done (by decide) ?_
      refine W.cond rfl (fun hc25 => ?_) (fun hc25 => ?_)
      ·
        try simp only [decide_eq_true_eq, decide_eq_false_iff_not, Bool.not_eq_true', Bool.not_eq_false', Int.ofNat_lt, Int.ofNat_le, Int.not_lt, Nat.not_lt, Int.not_le, Nat.not_le, Int.natCast_inj, ne_eq, Decidable.not_not] at hc25
        refine W.seq ?_
        refine W.region ?_
        refine .op (.y (y_assign rfl) ?_)
        refine .nil ?_
        refine W.ret ?_
        exact ret1 rfl rfl [] [] ⟨by rw [decide_eq_false (fun h => hc25 (by rw [h]))], rfl, rfl⟩ (by simp) (by simp)
      ·
        try simp only [decide_eq_true_eq, decide_eq_false_iff_not, Bool.not_eq_true', Bool.not_eq_false', Int.ofNat_lt, Int.ofNat_le, Int.not_lt, Nat.not_lt, Int.not_le, Nat.not_le, Int.natCast_inj, ne_eq, Decidable.not_not] at hc25
        refine W.skip ?_
        refine W.region ?_
        refine .op (.y (y_move rfl) ?_)
        refine .op (.y (y_addN (j := 1) rfl rfl (by omega)) ?_)
        refine .op (.y (y_assign rfl) ?_)
        refine .nil ?_
        exact ⟨i + 1, ⟨by omega, by rw [take_getD hc14 [], take_getD (by omega) [], htk, hc25]⟩, by first | omega | (simp only; omega), rfl, ⟨rfl, rfl, rfl, trivial⟩, at0, by simp⟩
    ·
      try simp only [decide_eq_true_eq, decide_eq_false_iff_not, Bool.not_eq_true', Bool.not_eq_false', Int.ofNat_lt, Int.ofNat_le, Int.not_lt, Nat.not_lt, Int.not_le, Nat.not_le, Int.natCast_inj, ne_eq, Decidable.not_not] at hc14
      have hi' : i = l.length := by omega
      refine W.exit ?_
      refine W.seq ?_
      refine W.region ?_
      refine .op (.y (y_assign rfl) ?_)
      refine .nil ?_
      refine W.ret ?_
      exact ret1 rfl rfl [] [] ⟨by rw [decide_eq_true (by rw [hi', List.take_length] at htk; rw [htk, List.take_of_length_le (by omega)])], rfl, rfl⟩ (by simp) (by simp)
/-! ### the plain law -/
theorem tB_inj : ∀ {s s' r r' : List UInt8}, tB s r = tB s' r' → s = s' ∧ r = r'
  | [], [], r, r', h => ⟨rfl, by simpa [tB] using h⟩
  | [], c :: s', r, r', h => by
    exfalso
    rw [tB_cons] at h
    simp only [tB, List.map_nil, List.flatten_nil, List.nil_append, List.cons_append] at h
    unfold escB at h
    split at h
    · simp at h
    · rename_i hc; simp at h; exact hc h.1.symm
  | c :: s, [], r, r', h => by
    exfalso
    rw [tB_cons] at h
    simp only [tB, List.map_nil, List.flatten_nil, List.nil_append, List.cons_append] at h
    unfold escB at h
    split at h
    · simp at h
    · rename_i hc; simp at h; exact hc h.1
  | c :: s, c' :: s', r, r', h => by
    rw [tB_cons, tB_cons] at h
    have key : c = c' ∧ tB s r = tB s' r' := by
      unfold escB at h
      by_cases h1 : c = 0 <;> by_cases h2 : c' = 0
      · subst h1; subst h2; simpa using h
      · subst h1; rw [if_pos rfl, if_neg h2] at h; simp at h; exact absurd h.1.symm h2
      · subst h2; rw [if_pos rfl, if_neg h1] at h; simp at h; exact absurd h.1 h1
      · rw [if_neg h1, if_neg h2] at h; simpa using h
    obtain ⟨h1, h2⟩ := tB_inj key.2
    exact ⟨by rw [key.1, h1], h2⟩
theorem joinB_inj : ∀ {l m : List (List UInt8)}, joinB l = joinB m → l = m
  | [], [], _ => rfl
  | [], s :: m, h => by rw [joinB_cons] at h; cases h
  | s :: l, [], h => by rw [joinB_cons] at h; cases h
  | s :: l, s' :: m, h => by
    rw [joinB_cons, joinB_cons] at h
    obtain ⟨h1, h2⟩ := tB_inj (List.cons.inj h).2
    rw [h1, joinB_inj h2]
theorem escB_le (c : UInt8) : (escB c).length ≤ 2 := by unfold escB; split <;> simp
theorem escs_le : ∀ s : List UInt8, (s.map escB).flatten.length ≤ 2 * s.length
  | [] => by simp
  | c :: s => by
    have := escs_le s
    have := escB_le c
    simp only [List.map_cons, List.flatten_cons, List.length_append, List.length_cons]
    omega
theorem joinB_le {N : Nat} : ∀ {l : List (List UInt8)}, (∀ s ∈ l, s.length ≤ N) → (joinB l).length ≤ (2 * N + 3) * l.length
  | [], _ => by simp [joinB]
  | s :: l, h => by
    have h1 := joinB_le (fun x hx => h x (List.mem_cons_of_mem _ hx))
    have h2 := escs_le s
    have h3 := h s List.mem_cons_self
    have e : (joinB (s :: l)).length = 1 + ((s.map escB).flatten.length + 2) + (joinB l).length := by simp [joinB, joinE, textB]; omega
    rw [e, List.length_cons, Nat.mul_add]
    omega
theorem few_join {kind bytes : List UInt8} {l : List (List UInt8)} (h : fewP kind bytes l) : l.length ≤ 1000000 ∧ (joinB (kind :: l)).length ≤ 10000000000000 ∧ ∀ s ∈ kind :: l, s.length ≤ 150 := by
  obtain ⟨h1, h2, h3, h4⟩ := h
  have h5 : ∀ s ∈ kind :: l, s.length ≤ 150 := fun s hs => by
    rcases List.mem_cons.1 hs with rfl | hs
    · exact h1
    · exact h4 s hs
  have h6 := joinB_le h5
  rw [List.length_cons] at h6
  have h7 : (2 * 150 + 3) * (l.length + 1) ≤ (2 * 150 + 3) * 9 := Nat.mul_le_mul_left _ (by omega)
  exact ⟨by omega, by omega, h5⟩
end Go.Proofs.Sep
