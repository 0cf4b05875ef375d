/- Package code: Join. -/
import Derived.Test.YtpnhedlciamegaaDoorLib
import Derived.Test.YtpnhedlciamegaaDoorSlices
import Derived.Test.YtpnhedlciamegaaDoorSepP
set_option linter.all false
set_option linter.unusedSimpArgs false
set_option linter.unnecessarySimpa false
set_option linter.deprecated false
set_option maxRecDepth 100000
set_option linter.unusedVariables false
namespace Go.Proofs.Sep
open Go Go.RowKit

section
variable {α β : Type} {f : α → List β}
theorem mapK_take {l : List α} {i : Nat} (h : i < l.length) (z : α) : ((l.take (i + 1)).map f).flatten = ((l.take i).map f).flatten ++ f (l.getD i z) := by
  rw [take_getD h z]
  simp
theorem mapK_le {l : List α} {i : Nat} (h : i < l.length) (z : α) : ((l.take i).map f).flatten.length + (f (l.getD i z)).length ≤ (l.map f).flatten.length := by
  have h1 := flat_take (l := l.map f) (i := i) (by simpa using h)
  have h2 : (l.map f).getD i [] = f (l.getD i z) := by simp [List.getD_eq_getElem?_getD, List.getElem?_eq_getElem h]
  rw [h2, ← List.map_take] at h1
  exact h1
end
def escB (c : UInt8) : List UInt8 := if c = 0 then [0, 255] else [c]
/-- A text as bytes, without its kind. -/
def textB (s : List UInt8) : List UInt8 := (s.map escB).flatten ++ [0, 0]
def joinE (s : List UInt8) : List UInt8 := 4 :: textB s
/-- Texts as bytes. -/
def joinB (l : List (List UInt8)) : List UInt8 := (l.map joinE).flatten
theorem escB_len (c : UInt8) : 1 ≤ (escB c).length := by
  unfold escB
  split <;> simp
theorem escs_len : ∀ s : List UInt8, s.length ≤ (s.map escB).flatten.length
  | [] => by simp
  | c :: s => by
    have := escs_len s
    have := escB_len c
    simp only [List.map_cons, List.flatten_cons, List.length_append, List.length_cons]
    omega
abbrev wTail : List Value := [.slice none 0 0]
theorem hasB_writer : hasB 121 wTail := by unfold hasB; kernel_rfl
theorem writer_text {b : Nat} {l s : List UInt8} {rs : List Res} (h : bld b 121 wTail l rs) (hl : l.length + (textB s).length ≤ 100000000000000) : Spec Tryd.prog 72 #[ptr b, str s] rs [] (RetP fun u rs' cs => cs = [] ∧ bld b 121 wTail (l ++ textB s) rs') := by
  refine Spec.body (args := [ptr b, str s]) (n := 30) Tryd.func72 rfl Tryd.ntmps72 (by simp) fun w0 hw0 => ?_
  have htl : (textB s).length = (s.map escB).flatten.length + 2 := by simp [textB]
  have hsl : s.length ≤ (s.map escB).flatten.length := escs_len s
  refine W.seq ?_
  refine W.seq ?_
  refine W.region ?_
  refine .op (.y (y_move rfl) ?_)
  refine .op (.y (y_slen rfl Tryd.underlying9) ?_)
  refine .op (.y (y_move rfl) ?_)
  refine .nil ?_
  refine W.block ?_
  refine W.loopI (ι := Nat × List Res) (fun ⟨i, q⟩ => i ≤ s.length ∧ bld b 121 wTail (l ++ ((s.take i).map escB).flatten) q) (fun ⟨i, q⟩ => [(0, ptr b), (1, str s), (6, .int .i64 (s.length : Int)), (7, .int .i64 (i : Int))]) (fun ⟨i, q⟩ => q) (fun ⟨i, q⟩ => []) (fun ⟨i, q⟩ => s.length - i) (0, rs) (⟨by omega, by simpa using h⟩)
    ⟨rfl, ⟨rfl, rfl, rfl, rfl, trivial⟩, ⟨[], by simp⟩, by simp⟩ ?_
  rintro ⟨i, q⟩ hG
  try simp only at hG ⊢
  obtain ⟨him, hb⟩ := hG
  refine W.seq ?_
  refine W.region ?_
  refine .op (.y (y_lssN rfl rfl) ?_)
  refine .nil ?_
  refine W.seq ?_
  refine W.cond rfl (fun hc8 => ?_) (fun hc8 => ?_)
  ·
    try simp only [decide_eq_true_eq, decide_eq_false_iff_not, Bool.not_eq_true', Bool.not_eq_false', Int.ofNat_lt, Int.ofNat_le, Int.not_lt, Nat.not_lt, Int.not_le, Nat.not_le, Int.natCast_inj, ne_eq, Decidable.not_not] at hc8
    have hle := mapK_le (f := escB) hc8 0
    have htk := mapK_take (f := escB) hc8 0
    refine W.skip ?_
    refine W.seq ?_
    refine W.block ?_
    refine W.seq ?_
    refine W.region ?_
    refine .op (.y (y_move rfl) ?_)
    refine .op (.y (y_assign rfl) ?_)
    refine .nil ?_
    refine W.seq ?_
    refine W.draw F.mixed (true, [([], []), ([0], [0]), ([1], [1]), ([], []), ([], []), ([3, 4], [3, 4]), ([2, 5], [2, 5])]) [] (by kernel_rfl) [] [] (Incl.none _ _) ?_
    refine .takeP 0 rfl (by decide) (y_move rfl) ?_
    refine .takeP 1 rfl (by decide) (y_nilCheck rfl) ?_
    refine .takeP 2 rfl (by decide) (y_field rfl F.fld121_0) ?_
    refine .takeP 3 rfl (by decide) (y_move rfl) ?_
    refine .takeP 4 rfl (by decide) (y_move rfl) ?_
    refine .takeP 5 rfl (by decide) (y_sindexN rfl rfl Tryd.underlying9 (by omega)) ?_
    refine .one 6 (by decide) rfl (o_callR (rs := q) (rest := []) (Builder_WriteByte (c := s.getD i 0) hb hasB_writer (by have := escB_len (s.getD i 0); rw [List.length_append]; omega)) F.cal71 rfl rfl rfl (by simp) (by simp) (fun v rs' cs' hv => ⟨Incl.none _ _, ?_⟩))
    obtain ⟨rfl, rfl, hb⟩ := hv
    refine .done (by decide) ?_
    refine W.seq ?_
    refine W.region ?_
    refine .op (.y (y_move rfl) ?_)
    refine .op (.y (y_move rfl) ?_)
    refine .op (.y (y_sindexN rfl rfl Tryd.underlying9 (by omega)) ?_)
    refine .op (.y (y_eqlN (j := 0) rfl rfl) ?_)
    refine .nil ?_
    refine W.cond rfl (fun hc20 => ?_) (fun hc20 => ?_)
    ·
      try simp only [decide_eq_true_eq, decide_eq_false_iff_not, Bool.not_eq_true', Bool.not_eq_false', Int.ofNat_lt, Int.ofNat_le, Int.not_lt, Nat.not_lt, Int.not_le, Nat.not_le, Int.natCast_inj, ne_eq, Decidable.not_not] at hc20
      have hz : s.getD i 0 = 0 := UInt8.toNat_inj.1 (by simpa using hc20)
      rw [hz, show escB 0 = [0, 255] from rfl] at hle htk
      rw [hz] at hb
      refine W.region ?_
      refine .op (.y (y_move rfl) ?_)
      refine .op (.y (y_nilCheck rfl) ?_)
      refine .op (.y (y_field rfl F.fld121_0) ?_)
      refine .op (o_callR (rs := rs') (rest := []) (Builder_WriteByte (c := 255) hb hasB_writer (by simp only [List.length_append, List.length_cons, List.length_nil] at hle ⊢; omega)) F.cal71 rfl rfl rfl (by simp) (by simp) (fun v rs2 cs' hv => ?_))
      obtain ⟨rfl, rfl, hb⟩ := hv
      refine .nil ?_
      refine W.region ?_
      refine .op (.y (y_addN (j := 1) rfl rfl (by omega)) ?_)
      refine .op (.y (y_move rfl) ?_)
      refine .nil ?_
      exact ⟨(i + 1, rs2), ⟨by omega, by rw [htk]; simpa using hb⟩, by first | omega | (simp only; omega), rfl, ⟨rfl, rfl, rfl, rfl, trivial⟩, ⟨[], by simp⟩, by simp⟩
    ·
      try simp only [decide_eq_true_eq, decide_eq_false_iff_not, Bool.not_eq_true', Bool.not_eq_false', Int.ofNat_lt, Int.ofNat_le, Int.not_lt, Nat.not_lt, Int.not_le, Nat.not_le, Int.natCast_inj, ne_eq, Decidable.not_not] at hc20
      have hz : escB (s.getD i 0) = [s.getD i 0] := if_neg (fun h => hc20 (by rw [h]; rfl))
      rw [hz] at hle htk
      refine W.skip ?_
      refine W.region ?_
      refine .op (.y (y_addN (j := 1) rfl rfl (by omega)) ?_)
      refine .op (.y (y_move rfl) ?_)
      refine .nil ?_
      exact ⟨(i + 1, rs'), ⟨by omega, by rw [htk]; simpa using hb⟩, by first | omega | (simp only; omega), rfl, ⟨rfl, rfl, rfl, rfl, trivial⟩, ⟨[], by simp⟩, by simp⟩
  ·
    try simp only [decide_eq_true_eq, decide_eq_false_iff_not, Bool.not_eq_true', Bool.not_eq_false', Int.ofNat_lt, Int.ofNat_le, Int.not_lt, Nat.not_lt, Int.not_le, Nat.not_le, Int.natCast_inj, ne_eq, Decidable.not_not] at hc8
    refine W.exit ?_
    obtain rfl : i = s.length := by omega
    rw [List.take_length] at hb
    refine W.region ?_
    refine .op (.y (y_move rfl) ?_)
    refine .op (.y (y_nilCheck rfl) ?_)
    refine .op (.y (y_field rfl F.fld121_0) ?_)
    refine .op (o_callR (rs := q) (rest := []) (Builder_WriteString (a := [0, 0]) hb hasB_writer (by simp only [List.length_append, List.length_cons, List.length_nil]; omega)) F.cal96 rfl rfl rfl (by simp) (by simp) (fun v rs' cs' hv => ?_))
    obtain ⟨rfl, rfl, hb⟩ := hv
    refine .nil ?_
    exact end0 rfl rs' [] ⟨_, rfl, rfl, by rw [textB, ← List.append_assoc]; exact hb⟩ (by simp) (by simp)
theorem code_Join {φ : Frag} {v : Value} {l : List (List UInt8)} (hv : Sl φ v 1 (strs l)) (hl : (joinB l).length ≤ 10000000000000) : Spec Tryd.prog 38 #[v] [] [φ] (Val (str (joinB l))) := by
  refine Spec.body (args := [v]) (n := 26) Tryd.func38 rfl Tryd.ntmps38 (by simp) fun w0 hw0 => ?_
  have hll := hv.len
  rw [strs_len] at hll
  refine W.seq ?_
  refine W.region ?_
  refine .op (.y (y_assign rfl) ?_)
  refine .nil ?_
  refine W.seq ?_
  refine W.region ?_
  refine .op (.y (y_build (cs := #[.pointer none, .slice none 0 0, .slice none 0 0]) F.ze121 F.pl121 rfl rfl) ?_)
  refine .op (o_boxA (cs := [.pointer none, .slice none 0 0, .slice none 0 0]) rfl (fun b7 hb7 => ?_))
  refine .op (.y (y_assign rfl) ?_)
  refine .nil ?_
  refine W.seq ?_
  refine W.seq ?_
  refine W.nilBuf 5 ?_
  refine W.region ?_
  refine .op (.y (y_move rfl) ?_)
  refine .op (.y (y_lenS rfl hv Tryd.underlying26) ?_)
  rw [strs_len]
  refine .op (.y (y_move rfl) ?_)
  refine .nil ?_
  refine W.block ?_
  refine W.loopI (ι := Nat × List Res) (fun ⟨i, q⟩ => i ≤ l.length ∧ bld b7 121 wTail (joinB (l.take i)) q) (fun ⟨i, q⟩ => [(3, ptr b7), (8, v), (9, .int .i64 (l.length : Int)), (10, .int .i64 (i : Int))]) (fun ⟨i, q⟩ => q) (fun ⟨i, q⟩ => [φ]) (fun ⟨i, q⟩ => l.length - i) (0, [_, _]) (⟨by omega, .pointer none, .slice none 0 0, .inl rfl, rfl, rfl⟩)
    ⟨rfl, ⟨rfl, rfl, rfl, rfl, trivial⟩, at2 1 0 rfl rfl, by simp⟩ ?_
  rintro ⟨i, q⟩ hG
  try simp only at hG ⊢
  obtain ⟨him, hb⟩ := hG
  refine W.seq ?_
  refine W.region ?_
  refine .op (.y (y_lssN rfl rfl) ?_)
  refine .nil ?_
  refine W.seq ?_
  refine W.cond rfl (fun hc11 => ?_) (fun hc11 => ?_)
  ·
    try simp only [decide_eq_true_eq, decide_eq_false_iff_not, Bool.not_eq_true', Bool.not_eq_false', Int.ofNat_lt, Int.ofNat_le, Int.not_lt, Nat.not_lt, Int.not_le, Nat.not_le, Int.natCast_inj, ne_eq, Decidable.not_not] at hc11
    have hle := mapK_le (f := joinE) hc11 []
    have htk := mapK_take (f := joinE) hc11 []
    have hj : (joinE (l.getD i [])).length = (textB (l.getD i [])).length + 1 := rfl
    unfold joinB at hb hl
    refine W.skip ?_
    refine W.seq ?_
    refine W.block ?_
    refine W.seq ?_
    refine W.region ?_
    refine .op (.yx (y_indexSN rfl hv rfl Tryd.underlying26 F.sz9 (strs_get hc11)) (fun v12 hv12 => ?_))
    refine .op (.y (y_loadP rfl (by assumption) rfl (by simp) F.sc9) ?_)
    refine .op (.y (y_assign rfl) ?_)
    refine .nil ?_
    refine W.seq ?_
    refine W.region ?_
    refine .op (.y (y_move rfl) ?_)
    refine .op (.y (y_nilCheck rfl) ?_)
    refine .op (.y (y_field rfl F.fld121_0) ?_)
    refine .op (o_callR (rs := q) (rest := []) (Builder_WriteByte (c := 4) hb hasB_writer (by omega)) F.cal71 rfl rfl rfl (by simp) (by simp) (fun v rs' cs' hv => ?_))
    obtain ⟨rfl, rfl, hb⟩ := hv
    refine .nil ?_
    refine W.region ?_
    refine .op (.y (y_move rfl) ?_)
    refine .op (.y (y_move rfl) ?_)
    refine .op (o_callR (rs := rs') (rest := []) (writer_text (s := l.getD i []) hb (by rw [List.length_append]; simp only [List.length_cons, List.length_nil]; omega)) F.cal72 rfl rfl rfl (by simp) (by simp) (fun v rs2 cs' hv => ?_))
    obtain ⟨rfl, hb⟩ := hv
    refine .nil ?_
    refine W.region ?_
    refine .op (.y (y_addN (j := 1) rfl rfl (by omega)) ?_)
    refine .op (.y (y_move rfl) ?_)
    refine .nil ?_
    exact ⟨(i + 1, rs2), ⟨by omega, by unfold joinB; rw [htk]; simpa [joinE] using hb⟩, by first | omega | (simp only; omega), rfl, ⟨rfl, rfl, rfl, rfl, trivial⟩, ⟨[], by simp⟩, by simp⟩
  ·
    try simp only [decide_eq_true_eq, decide_eq_false_iff_not, Bool.not_eq_true', Bool.not_eq_false', Int.ofNat_lt, Int.ofNat_le, Int.not_lt, Nat.not_lt, Int.not_le, Nat.not_le, Int.natCast_inj, ne_eq, Decidable.not_not] at hc11
    refine W.exit ?_
    obtain rfl : i = l.length := by omega
    rw [List.take_length] at hb
    refine W.seq ?_
    refine W.region ?_
    refine .op (.y (y_move rfl) ?_)
    refine .op (.y (y_nilCheck rfl) ?_)
    refine .op (.y (y_field rfl F.fld121_0) ?_)
    refine .op (o_callR (rs := q) (rest := []) (Builder_String hb) F.cal73 rfl rfl rfl (by simp) (by simp) (fun v rs' cs' hv => ?_))
    obtain ⟨rfl, rfl, hb⟩ := hv
    refine .op (.y (y_assign rfl) ?_)
    refine .nil ?_
    refine W.ret ?_
    exact ret1 rfl rfl [] [] ⟨rfl, rfl, rfl⟩ (by simp) (by simp)
end Go.Proofs.Sep
