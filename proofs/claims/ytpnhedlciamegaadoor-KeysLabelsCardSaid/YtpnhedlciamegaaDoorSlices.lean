/- Go's slices, of texts. -/
import Derived.Test.YtpnhedlciamegaaDoorFacts
set_option linter.all false
set_option linter.unusedSimpArgs false
set_option linter.unnecessarySimpa false
set_option linter.deprecated false
set_option maxRecDepth 100000
set_option linter.unusedVariables false
namespace Go.Proofs.Sep
open Go Go.RowKit

/-- What a slice that is nil or not holds. -/
def slV (v : Value) : Prop := ∃ A l c, v = .slice A l c
theorem Sl.form {φ : Frag} {v : Value} {sz : Nat} {ess : List (List Value)} (h : Sl φ v sz ess) : ∃ A c, v = .slice A ess.length c ∧ ess.length ≤ c := by
  obtain ⟨_, _, A, c, h1, h2, _⟩ := h
  exact ⟨A, c, h1, h2⟩
theorem Sl.len {φ : Frag} {v : Value} {sz : Nat} {ess : List (List Value)} (h : Sl φ v sz ess) : ess.length ≤ 9223372036854775807 := h.2.1
theorem Sl.none {φ : Frag} {l c : Nat} {sz : Nat} {ess : List (List Value)} (h : Sl φ (.slice none l c) sz ess) : ess = [] := by
  obtain ⟨_, _, A, c', h1, h2, h3⟩ := h
  cases ess with
  | nil => rfl
  | cons x r =>
    obtain ⟨b, off, arr, t, fr, h4, _⟩ := h3 (by simp)
    cases h1
    cases h4

/-- A clone: a row of one's own. -/
theorem slices_Clone_str {φ : Frag} {v : Value} {l : List (List UInt8)} (hv : Sl φ v 1 (strs l)) (hl : l.length * 16 ≤ 140737488355328) : Spec Tryd.prog 46 #[v] [] [φ] (RetP fun u rs cs => rs = [.row u 9 1 (strs l)] ∧ cs = []) := by
  refine Spec.body (args := [v]) (n := 8) Tryd.func46 rfl Tryd.ntmps46 (by simp) fun w0 hw0 => ?_
  obtain ⟨A, c, rfl, hc⟩ := hv.form
  refine W.seq ?_
  refine W.region ?_
  refine .op (.y (y_assign rfl) ?_)
  refine .nil ?_
  refine W.seq ?_
  refine W.seq ?_
  refine W.region ?_
  refine .op (.y (y_move rfl) ?_)
  refine .op (.y (y_eqlNilS rfl Tryd.underlying26) ?_)
  refine .nil ?_
  refine W.cond rfl (fun hc4 => ?_) (fun hc4 => ?_)
  ·
    try simp only [decide_eq_true_eq, decide_eq_false_iff_not, Bool.not_eq_true', Bool.not_eq_false', Int.ofNat_lt, Int.ofNat_le, Int.not_lt, Nat.not_lt, Int.not_le, Nat.not_le, Int.natCast_inj, ne_eq, Decidable.not_not] at hc4
    have hA : A = none := by simpa using hc4
    subst hA
    have he := hv.none
    refine W.seq ?_
    refine W.region ?_
    refine .op (.y (y_assign rfl) ?_)
    refine .nil ?_
    refine W.nilRow 9 1 ?_
    refine W.ret ?_
    exact ret1 rfl rfl [.row (.slice none 0 0) 9 1 []] [] ⟨_, rfl, by rw [he], rfl⟩ (List.Sublist.refl _) (by simp)
  ·
    try simp only [decide_eq_true_eq, decide_eq_false_iff_not, Bool.not_eq_true', Bool.not_eq_false', Int.ofNat_lt, Int.ofNat_le, Int.not_lt, Nat.not_lt, Int.not_le, Nat.not_le, Int.natCast_inj, ne_eq, Decidable.not_not] at hc4
    refine W.skip ?_
    refine W.seq ?_
    refine W.region ?_
    refine .op (o_buildD [] [] Tryd.underlying26 F.ze9 rfl (by omega) rfl rfl rfl rfl (by simp) (by omega) (fun gb hgb => ?_))
    refine .op (.y (y_move rfl) ?_)
    refine .op (o_append 0 rfl rfl rfl (.inr ⟨φ, by simp, hv⟩) Tryd.underlying26 F.ze9 rfl (by omega) (by simp [strs_len]; omega) (by omega) strs_cells (fun v' hv' hE => ?_))
    refine .op (.y (y_assign rfl) ?_)
    refine .nil ?_
    refine W.ret ?_
    exact ret1 rfl rfl [.row v' 9 1 ([] ++ strs l)] [] ⟨_, rfl, rfl, rfl⟩ (List.Sublist.refl _) (by simp)

theorem overlaps_str : Ext Tryd.prog 77 (Extern.SlicesOverlaps.overlaps #[26, 26] #[4]) := ⟨_, Tryd.func77, by kernel_rfl, by kernel_rfl, by kernel_rfl, by kernel_rfl⟩
theorem nmin (a b : Nat) : Nat.min a b = if a ≤ b then a else b := Nat.min_def
theorem list_mid {α : Type} (l : List α) (i : Nat) (x : α) (hi : i ≤ l.length) : l.insertIdx i x = l.take i ++ [x] ++ l.drop i := by
  induction l generalizing i with
  | nil =>
    obtain rfl : i = 0 := by simpa using hi
    simp
  | cons y l ih =>
    cases i with
    | zero => simp
    | succ i =>
      have := ih i (by simpa using hi)
      simp only [List.insertIdx_succ_cons, List.take_succ_cons, List.drop_succ_cons, this, List.cons_append]
theorem ins_take {α : Type} {A F x : List α} {I k : Nat} (hA : A.take I = F) (hF : F.length = I) (hx : x.length = k) (R : List α) : (A.take I ++ x ++ R).take (I + k) = F ++ x := by
  rw [hA]
  have h : (F ++ x).length = I + k := by simp [hF, hx]
  rw [List.take_append, h, Nat.sub_self, List.take_zero, List.append_nil, List.take_of_length_le (by omega)]
/-- What an insertion into a new block leaves. -/
theorem ins_grow {fl x tail : List Value} {I N k o1 o2 : Nat} (hfl : fl.length = N) (hI : I ≤ N) (hx : x.length = k) (h1 : o1 = I) (h2 : o2 = I + k) (R : List Value) :
    (((fl.take I ++ tail).take o1 ++ x ++ (fl.take I ++ tail).drop (o1 + x.length)).take o2 ++ fl.drop I ++ R).take (N + k) = fl.take I ++ x ++ fl.drop I := by
  subst h1
  subst h2
  have hF : (fl.take o1).length = o1 := by simp; omega
  have hA : (fl.take o1 ++ tail).take o1 = fl.take o1 := by rw [List.take_append, hF, Nat.sub_self, List.take_zero, List.append_nil, List.take_of_length_le (by omega)]
  rw [ins_take hA hF hx]
  have h : (fl.take o1 ++ x ++ fl.drop o1).length = N + k := by simp; omega
  rw [List.take_append, h, Nat.sub_self, List.take_zero, List.append_nil, List.take_of_length_le (by omega)]
/-- What an insertion in place leaves. -/
theorem ins_shift {fl x spare : List Value} {I N k o1 o2 : Nat} (hfl : fl.length = N) (hI : I ≤ N) (hx : x.length = k) (h1 : o1 = I) (h2 : o2 = I + k) (R : List Value) :
    (((fl ++ spare).take o2 ++ fl.drop I ++ R).take o1 ++ x ++ ((fl ++ spare).take o2 ++ fl.drop I ++ R).drop (o1 + x.length)).take (N + k) = fl.take I ++ x ++ fl.drop I ∨ (fl ++ spare).length < o2 := by
  subst h1
  subst h2
  by_cases hs : (fl ++ spare).length < o1 + k
  · exact .inr hs
  · refine .inl ?_
    have hF : (fl.take o1).length = o1 := by simp; omega
    have hT : ((fl ++ spare).take (o1 + k)).length = o1 + k := by rw [List.length_take]; omega
    have e1 : ((fl ++ spare).take (o1 + k) ++ fl.drop o1 ++ R).take o1 = fl.take o1 := by
      rw [List.append_assoc, List.take_append_of_le_length (by omega), List.take_take, Nat.min_eq_left (by omega), List.take_append_of_le_length (by omega)]
    have e2 : ((fl ++ spare).take (o1 + k) ++ fl.drop o1 ++ R).drop (o1 + x.length) = fl.drop o1 ++ R := by
      rw [List.append_assoc, hx, List.drop_append_of_le_length (by omega), List.drop_of_length_le (by omega), List.nil_append]
    rw [e1, e2]
    have h : (fl.take o1 ++ x ++ fl.drop o1).length = N + k := by simp; omega
    rw [← List.append_assoc, List.take_append, h, Nat.sub_self, List.take_zero, List.append_nil, List.take_of_length_le (by omega)]
theorem ins_flat {ess : List (List Value)} {x : List Value} {i k : Nat} (hes : ∀ y ∈ ess, y.length = k) (hi : i ≤ ess.length) : (ess.insertIdx i x).flatten = ess.flatten.take (i * k) ++ x ++ ess.flatten.drop (i * k) := by
  rw [list_mid _ _ _ hi, List.flatten_append, List.flatten_append, flatten_take i hes, flatten_drop i hes, List.flatten_singleton]
theorem ins_lens {ess : List (List Value)} {x : List Value} {i k : Nat} (hes : ∀ y ∈ ess, y.length = k) (hx : x.length = k) (hi : i ≤ ess.length) : ∀ y ∈ ess.insertIdx i x, y.length = k := by
  intro y hy
  rw [list_mid _ _ _ hi] at hy
  simp only [List.mem_append, List.mem_singleton] at hy
  rcases hy with (hy | hy) | hy
  · exact hes y (List.mem_of_mem_take hy)
  · rw [hy]; exact hx
  · exact hes y (List.mem_of_mem_drop hy)
theorem flat_cells {ess : List (List Value)} (h : ∀ y ∈ ess, ∀ c ∈ y, c.oneCell' = true) : ∀ c ∈ ess.flatten, c.oneCell' = true := by
  intro c hc
  obtain ⟨y, hy, hcy⟩ := List.mem_flatten.1 hc
  exact h y hy c hcy
/-! ### Insert: one element, both rows one's own -/
theorem slices_Insert_str {v u : Value} {ess : List (List Value)} {x : List Value} {i : Nat} (hi : i ≤ ess.length) (hl : (ess.length + 1) * 16 ≤ 140737488355328) (h1 : ∀ y ∈ ess, ∀ c ∈ y, c.oneCell' = true) (h2 : ∀ c ∈ x, c.oneCell' = true) : Spec Tryd.prog 45 #[v, .int .i64 (i : Int), u] [.row v 9 1 ess, .row u 9 1 [x]] [] (RetP fun w rs cs => rs = [.row w 9 1 (ess.insertIdx i x)] ∧ cs = []) := by
  refine Spec.body (args := [v, .int .i64 (i : Int), u]) (n := 95) Tryd.func45 rfl Tryd.ntmps45 (by simp) fun w0 hw0 => ?_
  refine W.rowShape 0 rfl fun A cap hv hcap => ?_
  subst hv
  refine W.seq ?_
  refine W.region ?_
  refine .op (.y (y_assign rfl) ?_)
  refine .nil ?_
  refine W.seq ?_
  refine W.region ?_
  refine .op (.y (y_move rfl) ?_)
  refine .op (.y (y_move rfl) ?_)
  refine .op (.y (y_sliceG rfl Tryd.underlying26 F.sz9 (by exact ⟨_, rfl⟩) rfl hi hcap) ?_)
  refine .nil ?_
  refine W.seq ?_
  refine W.region ?_
  refine .op (.y (y_move rfl) ?_)
  refine .op (.y (y_lenR 1 rfl rfl Tryd.underlying26) ?_)
  rw [show ([x] : List (List Value)).length = 1 from rfl]
  refine .op (.y (y_assign rfl) ?_)
  refine .nil ?_
  refine W.seq ?_
  refine W.seq ?_
  refine W.region ?_
  refine .op (.y (y_move rfl) ?_)
  refine .op (.y (y_eqlN (j := 0) rfl rfl) ?_)
  refine .nil ?_
  refine W.condF (rfl) ?_
  refine W.skip ?_
  refine W.seq ?_
  refine W.region ?_
  refine .op (.y (y_move rfl) ?_)
  refine .op (.y (y_len rfl Tryd.underlying26) ?_)
  refine .op (.y (y_assign rfl) ?_)
  refine .nil ?_
  refine W.seq ?_
  refine W.seq ?_
  refine W.region ?_
  refine .op (.y (y_move rfl) ?_)
  refine .op (.y (y_move rfl) ?_)
  refine .op (.y (y_eqlN rfl rfl) ?_)
  refine .nil ?_
  refine W.cond rfl (fun hc22 => ?_) (fun hc22 => ?_)
  ·
    try simp only [decide_eq_true_eq, decide_eq_false_iff_not, Bool.not_eq_true', Bool.not_eq_false', Int.ofNat_lt, Int.ofNat_le, Int.not_lt, Nat.not_lt, Int.not_le, Nat.not_le, Int.natCast_inj, ne_eq, Decidable.not_not] at hc22
    refine W.seq ?_
    refine W.region ?_
    refine .op (.y (y_move rfl) ?_)
    refine .op (.y (y_move rfl) ?_)
    refine .op (o_append 0 rfl rfl rfl (.inl ⟨1, _, rfl⟩) Tryd.underlying26 F.ze9 rfl (by omega) (by simp; omega) (by omega) (by simpa using h2) (fun v' hv' hE => ?_))
    refine .op (.y (y_assign rfl) ?_)
    refine .nil ?_
    refine W.ret ?_
    exact ret1 rfl rfl [.row v' 9 1 (ess ++ [x])] [] ⟨_, rfl, by rw [hc22, List.insertIdx_length_self], rfl⟩ (by simp) (by simp)
  ·
    try simp only [decide_eq_true_eq, decide_eq_false_iff_not, Bool.not_eq_true', Bool.not_eq_false', Int.ofNat_lt, Int.ofNat_le, Int.not_lt, Nat.not_lt, Int.not_le, Nat.not_le, Int.natCast_inj, ne_eq, Decidable.not_not] at hc22
    have hlt : i < ess.length := by omega
    refine W.rowCel 0 rfl (by omega) fun gb cap' spare hv hcap' hmax hsp hes => ?_
    cases hv
    refine W.rowCel 1 rfl (by simp) fun ub ucap uspare hu hucap humax husp hux => ?_
    rw [show ([x] : List (List Value)).length = 1 from rfl] at hu hucap husp
    subst hu
    have hx1 : x.length = 1 := hux x (by simp)
    have hfl : ess.flatten.length = ess.length * 1 := flatten_length hes
    have hf1 := flat_cells h1
    have hlen := ins_lens hes hx1 hi
    have hflat := ins_flat (x := x) hes hi
    have hil : (ess.insertIdx i x).length = ess.length + 1 := by rw [List.length_insertIdx, if_pos hi]
    rw [show [x].flatten = x from by simp]
    generalize ess.insertIdx i x = out at *
    generalize ess.flatten = fl at *
    refine W.skip ?_
    refine W.seq ?_
    refine W.seq ?_
    refine W.region ?_
    refine .op (.y (y_move rfl) ?_)
    refine .op (.y (y_move rfl) ?_)
    refine .op (.y (y_addN rfl rfl (by omega)) ?_)
    refine .op (.y (y_move rfl) ?_)
    refine .op (.y (y_cap rfl Tryd.underlying26) ?_)
    refine .op (.y (y_gtrN rfl rfl) ?_)
    refine .nil ?_
    refine W.cond rfl (fun hc31 => ?_) (fun hc31 => ?_)
    ·
      try simp only [decide_eq_true_eq, decide_eq_false_iff_not, Bool.not_eq_true', Bool.not_eq_false', Int.ofNat_lt, Int.ofNat_le, Int.not_lt, Nat.not_lt, Int.not_le, Nat.not_le, Int.natCast_inj, ne_eq, Decidable.not_not] at hc31
      refine W.seq ?_
      refine W.region ?_
      refine .op (.y (y_move rfl) ?_)
      refine .op (.y (y_move rfl) ?_)
      refine .op (.y (y_sliceC (i := 0) (j := i) rfl Tryd.underlying26 F.sz9 rfl (by exact ⟨_, rfl⟩) (by omega) (by omega)) ?_)
      simp only [Nat.zero_mul, Nat.add_zero, ite_self, Nat.sub_zero]
      refine .op (.y (y_move rfl) ?_)
      refine .op (.y (y_move rfl) ?_)
      refine .op (.y (y_addN rfl rfl (by omega)) ?_)
      refine .op (.y (y_move rfl) ?_)
      refine .op (.y (y_subN rfl rfl (by omega) (by omega)) ?_)
      refine .op (o_appendZ (sz := 1) (m := ess.length + 1 - i) (fl.take (i * 1)) rfl rfl Tryd.underlying26 Tryd.underlying3 F.ze9 rfl (by omega) (by rw [List.length_take]; omega) (fun w hst => ⟨by simp, fun a ha j v hj => by cases ha; rw [add_mk]; refine cel_cells (hst.holds _ List.mem_cons_self) ?_; rw [Nat.zero_add, List.getElem?_append_left (by have := (List.getElem?_eq_some_iff.1 hj).1; rw [List.length_take] at this; omega)]; rw [List.getElem?_take] at hj; split at hj; exact hj; cases hj⟩) (by omega) (by omega) (by omega) (by omega) (fun gb2 cap2 tail hgb2 hcap2 hmax2 htl => ?_))
      refine .op (.y (y_assign rfl) ?_)
      refine .nil ?_
      refine W.seq ?_
      refine W.region ?_
      refine .op (.y (y_move rfl) ?_)
      refine .op (.y (y_move rfl) ?_)
      refine .op (.y (y_sliceC (i := i) (j := i + (ess.length + 1 - i)) rfl Tryd.underlying26 F.sz9 (by exact ⟨_, rfl⟩) rfl (by omega) (by omega)) ?_)
      rw [if_neg (show ¬ cap2 = i by omega)]
      refine .op (.y (y_move rfl) ?_)
      refine .op (o_copyC 0 2 x rfl rfl rfl rfl Tryd.underlying26 F.sz9 (by rw [List.drop_zero, show Nat.min 1 (i + (ess.length + 1 - i) - i) * 1 = x.length from by rw [nmin]; split <;> omega, List.take_left]) (by rw [nmin]; split <;> omega) (by simp only [List.length_append, List.length_take, hx1, htl]; omega) h2 ?_)
      refine .nil ?_
      refine W.seq ?_
      refine W.draw F.mixed (true, [([], []), ([], []), ([], []), ([1, 2], [1, 2]), ([0, 3], [0, 3]), ([], []), ([], []), ([5, 6], [5, 6]), ([4, 7], [4, 7])]) [8] (by kernel_rfl) _ _ (Incl.refl _ _) ?_
      refine .takeP 0 rfl (by decide) (y_move rfl) ?_
      refine .takeP 1 rfl (by decide) (y_move rfl) ?_
      refine .takeP 2 rfl (by decide) (y_move rfl) ?_
      refine .takeP 3 rfl (by decide) (y_addN rfl rfl (by omega)) ?_
      refine .takeP 4 rfl (by decide) (y_sliceC (i := i + 1) (j := i + (ess.length + 1 - i)) rfl Tryd.underlying26 F.sz9 (by exact ⟨_, rfl⟩) rfl (by omega) (by omega)) ?_
      rw [if_neg (show ¬ cap2 = i + 1 by omega)]
      refine .takeP 5 rfl (by decide) (y_move rfl) ?_
      refine .takeP 6 rfl (by decide) (y_move rfl) ?_
      refine .takeP 7 rfl (by decide) (y_sliceC (i := i) (j := ess.length) rfl Tryd.underlying26 F.sz9 (by exact ⟨_, rfl⟩) rfl (by omega) (by omega)) ?_
      rw [if_neg (show ¬ cap = i by omega)]
      refine .sw (by decide) ?_
      refine .one 8 (by decide) rfl (o_copyC 0 1 (fl.drop (i * 1)) rfl rfl rfl rfl Tryd.underlying26 F.sz9 (by rw [Nat.zero_add, List.drop_append_of_le_length (by omega), show Nat.min (ess.length - i) (i + (ess.length + 1 - i) - (i + 1)) * 1 = (fl.drop (i * 1)).length from by rw [List.length_drop, nmin]; split <;> omega, List.take_left]) (by rw [List.length_drop, nmin]; split <;> omega) (by simp only [List.length_append, List.length_take, List.length_drop, hx1, htl, hfl]; omega) (fun c hc => hf1 c (List.mem_of_mem_drop hc)) ⟨Incl.none _ _, ?_⟩)
      refine .done (by decide) ?_
      refine W.seq ?_
      refine W.region ?_
      refine .op (.y (y_move rfl) ?_)
      refine .op (.y (y_assign rfl) ?_)
      refine .nil ?_
      refine W.celRow (sz := 1) (cap := cap2) 0 out rfl hlen (by omega) hmax2 (by simp only [List.length_append, List.length_take, List.length_drop, hx1, htl, hfl]; omega) (by rw [hflat, hil, Nat.add_mul]; exact ins_grow hfl (by omega) (by omega) (by omega) (by omega) _) ?_
      refine W.ret ?_
      exact ret1 rfl rfl [.row (.slice (some ⟨gb2, 0, none⟩) out.length cap2) 9 1 out] [] ⟨_, by rw [hil, show i + (ess.length + 1 - i) = ess.length + 1 from by omega], rfl, rfl⟩ (by simp) (by simp)
    ·
      try simp only [decide_eq_true_eq, decide_eq_false_iff_not, Bool.not_eq_true', Bool.not_eq_false', Int.ofNat_lt, Int.ofNat_le, Int.not_lt, Nat.not_lt, Int.not_le, Nat.not_le, Int.natCast_inj, ne_eq, Decidable.not_not] at hc31
      refine W.skip ?_
      refine W.seq ?_
      refine W.region ?_
      refine .op (.y (y_move rfl) ?_)
      refine .op (.y (y_move rfl) ?_)
      refine .op (.y (y_move rfl) ?_)
      refine .op (.y (y_addN rfl rfl (by omega)) ?_)
      refine .op (.y (y_sliceC (i := 0) (j := ess.length + 1) rfl Tryd.underlying26 F.sz9 rfl (by exact ⟨_, rfl⟩) (by omega) (by omega)) ?_)
      simp only [Nat.zero_mul, Nat.add_zero, ite_self, Nat.sub_zero]
      refine .op (.y (y_assign rfl) ?_)
      refine .nil ?_
      refine W.seq ?_
      refine W.seq ?_
      refine W.region ?_
      refine .op (.y (y_move rfl) ?_)
      refine .op (.y (y_move rfl) ?_)
      refine .op (.y (y_move rfl) ?_)
      refine .op (.y (y_move rfl) ?_)
      refine .op (.y (y_addN rfl rfl (by omega)) ?_)
      refine .op (.y (y_sliceC (i := i + 1) (j := ess.length + 1) rfl Tryd.underlying26 F.sz9 (by exact ⟨_, rfl⟩) rfl (by omega) (by omega)) ?_)
      rw [if_neg (show ¬ cap = i + 1 by omega)]
      refine .op (o_overlaps 1 0 overlaps_str rfl rfl rfl rfl (.inr (by decide)) Tryd.underlying26 F.sz9 (by simp; omega) ?_)
      refine .op (.y (y_not rfl) ?_)
      refine .nil ?_
      refine W.condT (rfl) ?_
      refine W.seq ?_
      refine W.draw F.mixed (true, [([], []), ([], []), ([], []), ([1, 2], [1, 2]), ([0, 3], [0, 3]), ([], []), ([], []), ([5, 6], [5, 6]), ([4, 7], [4, 7])]) [8] (by kernel_rfl) _ _ (Incl.refl _ _) ?_
      refine .takeP 0 rfl (by decide) (y_move rfl) ?_
      refine .takeP 1 rfl (by decide) (y_move rfl) ?_
      refine .takeP 2 rfl (by decide) (y_move rfl) ?_
      refine .takeP 3 rfl (by decide) (y_addN rfl rfl (by omega)) ?_
      refine .takeP 4 rfl (by decide) (y_sliceC (i := i + 1) (j := ess.length + 1) rfl Tryd.underlying26 F.sz9 (by exact ⟨_, rfl⟩) rfl (by omega) (by omega)) ?_
      rw [if_neg (show ¬ cap = i + 1 by omega)]
      refine .takeP 5 rfl (by decide) (y_move rfl) ?_
      refine .takeP 6 rfl (by decide) (y_move rfl) ?_
      refine .takeP 7 rfl (by decide) (y_sliceC (i := i) (j := ess.length + 1) rfl Tryd.underlying26 F.sz9 (by exact ⟨_, rfl⟩) rfl (by omega) (by omega)) ?_
      rw [if_neg (show ¬ cap = i by omega)]
      refine .sw (by decide) ?_
      refine .one 8 (by decide) rfl (o_copyC 0 0 (fl.drop (i * 1)) rfl rfl rfl rfl Tryd.underlying26 F.sz9 (by rw [Nat.zero_add, List.drop_append_of_le_length (by omega), show Nat.min (ess.length + 1 - i) (ess.length + 1 - (i + 1)) * 1 = (fl.drop (i * 1)).length from by rw [List.length_drop, nmin]; split <;> omega, List.take_left]) (by rw [List.length_drop, nmin]; split <;> omega) (by simp [hsp, hfl]; omega) (fun c hc => hf1 c (List.mem_of_mem_drop hc)) ⟨Incl.none _ _, ?_⟩)
      refine .done (by decide) ?_
      refine W.seq ?_
      refine W.region ?_
      refine .op (.y (y_move rfl) ?_)
      refine .op (.y (y_move rfl) ?_)
      refine .op (.y (y_sliceC (i := i) (j := ess.length + 1) rfl Tryd.underlying26 F.sz9 (by exact ⟨_, rfl⟩) rfl (by omega) (by omega)) ?_)
      rw [if_neg (show ¬ cap = i by omega)]
      refine .op (.y (y_move rfl) ?_)
      refine .op (o_copyC 0 1 x rfl rfl rfl rfl Tryd.underlying26 F.sz9 (by rw [List.drop_zero, show Nat.min 1 (ess.length + 1 - i) * 1 = x.length from by rw [nmin]; split <;> omega, List.take_left]) (by rw [nmin]; split <;> omega) (by simp [hx1, hsp, hfl]; omega) h2 ?_)
      refine .nil ?_
      refine W.seq ?_
      refine W.region ?_
      refine .op (.y (y_move rfl) ?_)
      refine .op (.y (y_assign rfl) ?_)
      refine .nil ?_
      refine W.celRow (sz := 1) (cap := cap) 0 out rfl hlen (by omega) hmax (by simp [hx1, hsp, hfl]; omega) (by rw [hflat, hil, Nat.add_mul]; exact (ins_shift hfl (by omega) (by omega) (by omega) (by omega) _).resolve_right (by simp [hsp, hfl]; omega)) ?_
      refine W.ret ?_
      exact ret1 rfl rfl [.row (.slice (some ⟨gb, 0, none⟩) out.length cap) 9 1 out] [] ⟨_, by rw [hil], rfl, rfl⟩ (by simp) (by simp)
end Go.Proofs.Sep
