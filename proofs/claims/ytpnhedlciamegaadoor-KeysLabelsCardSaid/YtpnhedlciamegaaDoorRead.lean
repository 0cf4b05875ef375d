/- Package code: its reader, where what it reads is well formed. -/
import Derived.Test.YtpnhedlciamegaaDoorLaw14
import Derived.Test.YtpnhedlciamegaaDoorSepR
set_option linter.all false
set_option linter.unusedSimpArgs false
set_option linter.unnecessarySimpa false
set_option linter.deprecated false
set_option maxRecDepth 100000
set_option linter.unusedVariables false
namespace Go.Proofs.Sep
open Go Go.RowKit

abbrev rdR (b : Nat) (s : List UInt8) : Res := cel b 82 [str s]
theorem code_need  : Spec Tryd.prog 42 #[.bool true] [] [] (Val (.tuple #[])) := by
  refine Spec.body (args := [.bool true]) (n := 6) Tryd.func42 rfl Tryd.ntmps42 (by simp) fun w0 hw0 => ?_
  refine W.seq ?_
  refine W.region ?_
  refine .op (.y (y_move rfl) ?_)
  refine .op (.y (y_not rfl) ?_)
  refine .nil ?_
  refine W.condF (rfl) ?_
  refine W.skip ?_
  exact end0 rfl [] [] ⟨rfl, rfl, rfl⟩ (by simp) (by simp)
theorem reader_take {b n : Nat} {s : List UInt8} (hn : n ≤ s.length) (hm : n ≤ 1000000) : Spec Tryd.prog 43 #[ptr b, .int .i64 (n : Int)] [rdR b s] [] (RetP fun u rs cs => u = str (s.take n) ∧ rs = [rdR b (s.drop n)] ∧ cs = []) := by
  refine Spec.body (args := [ptr b, .int .i64 (n : Int)]) (n := 31) Tryd.func43 rfl Tryd.ntmps43 (by simp) fun w0 hw0 => ?_
  refine W.seq ?_
  refine W.region ?_
  refine .op (.y (y_assign rfl) ?_)
  refine .nil ?_
  refine W.seq ?_
  refine W.seq ?_
  refine W.region ?_
  refine .op (.y (y_move rfl) ?_)
  refine .op (.y (y_move rfl) ?_)
  refine .op (.y (y_nilCheck rfl) ?_)
  refine .op (.y (y_field rfl F.fld82_0) ?_)
  refine .op (.y (y_load 0 rfl rfl rfl F.sc9) ?_)
  refine .op (.y (y_slen rfl Tryd.underlying9) ?_)
  refine .op (.y (y_gtrN rfl rfl) ?_)
  rw [show decide (s.length < n) = false from decide_eq_false (by omega)]
  refine .nil ?_
  refine W.condF (rfl) ?_
  refine W.skip ?_
  refine W.seq ?_
  refine W.region ?_
  refine .op (.y (y_move rfl) ?_)
  refine .op (.y (y_nilCheck rfl) ?_)
  refine .op (.y (y_field rfl F.fld82_0) ?_)
  refine .op (.y (y_load 0 rfl rfl rfl F.sc9) ?_)
  refine .op (.y (y_move rfl) ?_)
  refine .op (.y (y_sslice (i := 0) (j := n) rfl Tryd.underlying9 rfl rfl (by omega) (by omega)) ?_)
  refine .op (.y (y_assign rfl) ?_)
  refine .nil ?_
  refine W.seq ?_
  refine W.region ?_
  refine .op (.y (y_move rfl) ?_)
  refine .op (.y (y_move rfl) ?_)
  refine .op (.y (y_nilCheck rfl) ?_)
  refine .op (.y (y_field rfl F.fld82_0) ?_)
  refine .op (.y (y_load 0 rfl rfl rfl F.sc9) ?_)
  refine .op (.y (y_move rfl) ?_)
  refine .op (.y (y_sslice (i := n) (j := s.length) rfl Tryd.underlying9 rfl rfl (by omega) (by omega)) ?_)
  rw [show (s.drop n).take (s.length - n) = s.drop n from List.take_of_length_le (by rw [List.length_drop]; omega)]
  refine .op (.y (y_nilCheck rfl) ?_)
  refine .op (.y (y_field rfl F.fld82_0) ?_)
  refine .op (o_store 0 rfl rfl rfl rfl (by simp) F.sz9 ?_)
  refine .nil ?_
  refine W.seq ?_
  refine W.region ?_
  refine .op (.y (y_move rfl) ?_)
  refine .op (.y (y_assign rfl) ?_)
  refine .nil ?_
  refine W.ret ?_
  exact ret1 rfl rfl [rdR b (s.drop n)] [] ⟨_, rfl, rfl, rfl, rfl⟩ (List.Sublist.refl _) (by simp)
theorem reader_pairs {b : Nat} : Spec Tryd.prog 76 #[ptr b] [] [] (RetP fun u rs cs => ∃ k, u = .func (.func 97) #[] #[ptr k] ∧ rs = [cel k 80 [ptr b]] ∧ cs = []) := by
  refine Spec.body (args := [ptr b]) (n := 4) Tryd.func76 rfl Tryd.ntmps76 (by simp) fun w0 hw0 => ?_
  refine W.seq ?_
  refine W.region ?_
  refine .op (o_box1 rfl rfl (fun b1 hb1 => ?_))
  refine .op (.y (y_assign rfl) ?_)
  refine .nil ?_
  refine W.seq ?_
  refine W.region ?_
  refine .op (.y (y_makeFunc rfl rfl) ?_)
  refine .op (.y (y_assign rfl) ?_)
  refine .nil ?_
  refine W.ret ?_
  exact ret1 rfl rfl [cel b1 80 [ptr b]] [] ⟨_, rfl, b1, rfl, rfl, rfl⟩ (List.Sublist.refl _) (by simp)
/-- What is behind so many bytes of a text. -/
def tB (s r : List UInt8) : List UInt8 := (s.map escB).flatten ++ ([0, 0] ++ r)
theorem tB_cons (c : UInt8) (s r : List UInt8) : tB (c :: s) r = escB c ++ tB s r := by simp [tB]
theorem tB_len (s r : List UInt8) : 2 ≤ (tB s r).length := by simp [tB]; omega
/-- The byte behind one. -/
def nextB (s r : List UInt8) (i : Nat) : UInt8 := (tB (s.drop i) r).getD 1 0
theorem drop_getD {α : Type} {l : List α} {i : Nat} (h : i < l.length) (z : α) : l.drop i = l.getD i z :: l.drop (i + 1) := by
  rw [List.drop_eq_getElem_cons h, List.getD_eq_getElem?_getD, List.getElem?_eq_getElem h]
  rfl
theorem tB_head {s r : List UInt8} {i : Nat} (h : i < s.length) : (tB (s.drop i) r).getD 0 0 = s.getD i 0 := by
  rw [drop_getD h 0, tB_cons]
  generalize s.getD i 0 = c
  unfold escB
  split
  · rename_i hc; subst hc; rfl
  · rfl
theorem nextB_zero {s r : List UInt8} {i : Nat} (h : i < s.length) (hc : s.getD i 0 = 0) : nextB s r i = 255 := by
  rw [nextB, drop_getD h 0, tB_cons, hc]
  rfl
theorem tB_drop0 {s r : List UInt8} {i : Nat} (h : i < s.length) (hc : s.getD i 0 = 0) : ((tB (s.drop i) r).drop 1).drop 1 = tB (s.drop (i + 1)) r := by
  rw [drop_getD h 0, tB_cons, hc]
  rfl
theorem tB_drop1 {s r : List UInt8} {i : Nat} (h : i < s.length) (hc : s.getD i 0 ≠ 0) : (tB (s.drop i) r).drop 1 = tB (s.drop (i + 1)) r := by
  rw [drop_getD h 0, tB_cons]
  simp only [escB, if_neg hc]
  rfl
theorem tB_end (s r : List UInt8) : tB (s.drop s.length) r = [0, 0] ++ r := by simp [tB]
theorem reader_pairs1 {l k b : Nat} {r : Loop} {jj : Code} {s rest : List UInt8} {J : Nat → List Res → Prop} {q0 : List Res} {cs : List Frag} (h0 : J 0 q0) (hy : ∀ i, i < s.length → ∀ q, J i q → YSpec Tryd.prog l #[byte (s.getD i 0), byte (nextB s rest i)] (.blk l (.loop r) :: q) cs (RetP fun v rs' cs' => v = .bool true ∧ (∃ q', J (i + 1) q' ∧ rs' = .blk l (.loop r) :: q') ∧ cs' = []))
  (hz : ∀ q, J s.length q → YSpec Tryd.prog l #[byte 0, byte 0] (.blk l (.loop r) :: q) cs (RetP fun v rs' cs' => v = .bool false ∧ (∃ q', J s.length q' ∧ rs' = .blk l (.loop { r with state := .done, pending := some jj }) :: q') ∧ cs' = [])) : Spec Tryd.prog 97 #[.func (.yield l) #[] #[], ptr k] (.blk l (.loop r) :: rdR b (tB s rest) :: cel k 80 [ptr b] :: q0) cs (RetP fun v rs' cs' => v = .tuple #[] ∧ (∃ q', J s.length q' ∧ rs' = .blk l (.loop { r with state := .done, pending := some jj }) :: (q' ++ [rdR b rest])) ∧ cs' = []) := by
  refine Spec.body (args := [.func (.yield l) #[] #[], ptr k]) (n := 33) Tryd.func97 rfl Tryd.ntmps97 (by simp) fun w0 hw0 => ?_
  refine W.block ?_
  refine W.loopI (ι := Nat × List Res) (fun ⟨i, q⟩ => i ≤ s.length ∧ J i q) (fun ⟨i, q⟩ => [(0, .func (.yield l) #[] #[]), (1, ptr k)]) (fun ⟨i, q⟩ => .blk l (.loop r) :: rdR b (tB (s.drop i) rest) :: cel k 80 [ptr b] :: q) (fun ⟨i, q⟩ => cs) (fun ⟨i, q⟩ => s.length - i) (0, q0) (⟨by omega, h0⟩)
    ⟨rfl, ⟨rfl, rfl, trivial⟩, ⟨[], by simp⟩, by simp⟩ ?_
  rintro ⟨i, q⟩ hG
  try simp only at hG ⊢
  obtain ⟨him, hJ⟩ := hG
  have hl2 := tB_len (s.drop i) rest
  have hyy : ∃ c : UInt8, (tB (s.drop i) rest).getD 0 0 = c ∧ ∃ nx, (if c = 0 then ((tB (s.drop i) rest).drop 1).drop 1 else (tB (s.drop i) rest).drop 1) = nx ∧ (i = s.length → nx = rest ∧ c = 0) ∧ (i < s.length → nx = tB (s.drop (i + 1)) rest) ∧ YSpec Tryd.prog l #[byte c, byte ((tB (s.drop i) rest).getD 1 0)] (.blk l (.loop r) :: q) cs (RetP fun v rs' cs' => ∃ q' r2, rs' = .blk l (.loop r2) :: q' ∧ cs' = [] ∧ v = .bool (decide (i < s.length)) ∧ (i < s.length → J (i + 1) q' ∧ r2 = r) ∧ (i = s.length → J s.length q' ∧ r2 = { r with state := .done, pending := some jj })) := by
      by_cases h : i < s.length
      · refine ⟨s.getD i 0, tB_head h, _, rfl, fun h2 => by omega, fun _ => ?_, ?_⟩
        · split
          · rename_i hc; exact tB_drop0 h hc
          · rename_i hc; exact tB_drop1 h hc
        · exact (hy i h q hJ).mono fun e rs' cs' ⟨v, he, hv, ⟨q', hq, hr⟩, hc⟩ => ⟨v, he, q', r, hr, hc, by rw [hv, decide_eq_true h], fun _ => ⟨hq, rfl⟩, fun h2 => by omega⟩
      · obtain rfl : i = s.length := by omega
        rw [tB_end]
        exact ⟨0, rfl, rest, rfl, fun _ => ⟨rfl, rfl⟩, fun h2 => by omega, (hz q hJ).mono fun e rs' cs' ⟨v, he, hv, ⟨q', hq, hr⟩, hc⟩ => ⟨v, he, q', _, hr, hc, by rw [hv, decide_eq_false h], fun h2 => by omega, fun _ => ⟨hq, rfl⟩⟩⟩
  obtain ⟨c, hc, nx, hnx, hend, hgo, hys⟩ := hyy
  generalize tB (s.drop i) rest = x at *
  refine W.block ?_
  refine W.seq ?_
  refine W.region ?_
  refine .op (.y (y_load 2 rfl rfl rfl F.sc80) ?_)
  refine .op (.y (y_nilCheck rfl) ?_)
  refine .op (.y (y_field rfl F.fld82_0) ?_)
  refine .op (.y (y_load 1 rfl rfl rfl F.sc9) ?_)
  refine .op (.y (y_slen rfl Tryd.underlying9) ?_)
  refine .op (.y (y_gtrN (j := 1) rfl rfl) ?_)
  rw [show decide (1 < x.length) = true from decide_eq_true (by omega)]
  refine .op (o_callV code_need F.cal42 rfl rfl rfl (by simp) ?_)
  refine .nil ?_
  refine W.seq ?_
  refine W.draw F.mixed (true, [([], []), ([0], [0]), ([1], [1]), ([2], [2]), ([3], [3]), ([], []), ([5], [5]), ([6], [6]), ([7], [7]), ([8], [8]), ([4, 0, 1, 2, 3, 4], [4]), ([9, 10, 0, 1, 2, 3, 4, 5, 6, 7, 8, 9, 10], [9])]) [] (by kernel_rfl) _ _ (Incl.refl _ _) ?_
  refine .take 0 rfl (by decide) (y_load 2 rfl rfl rfl F.sc80) ?_
  refine .takeP 1 rfl (by decide) (y_nilCheck rfl) ?_
  refine .takeP 2 rfl (by decide) (y_field rfl F.fld82_0) ?_
  refine .take 3 rfl (by decide) (y_load 1 rfl rfl rfl F.sc9) ?_
  refine .takeP 4 rfl (by decide) (y_sindexN (i := 0) rfl rfl Tryd.underlying9 (by omega)) ?_
  rw [hc]
  refine .take 5 rfl (by decide) (y_load 2 rfl rfl rfl F.sc80) ?_
  refine .takeP 6 rfl (by decide) (y_nilCheck rfl) ?_
  refine .takeP 7 rfl (by decide) (y_field rfl F.fld82_0) ?_
  refine .take 8 rfl (by decide) (y_load 1 rfl rfl rfl F.sc9) ?_
  refine .takeP 9 rfl (by decide) (y_sindexN (i := 1) rfl rfl Tryd.underlying9 (by omega)) ?_
  refine .takeP 10 rfl (by decide) (y_assign rfl) ?_
  refine .takeP 11 rfl (by decide) (y_assign rfl) ?_
  refine .done (by decide) ?_
  refine W.seq ?_
  refine W.region ?_
  refine .op (.y (y_load 2 rfl rfl rfl F.sc80) ?_)
  refine .op (o_call1 1 (reader_take (n := 1) (s := x) (by omega) (by omega)) rfl F.cal43 rfl rfl rfl (by simp) (fun v rs' cs' hv => ?_))
  obtain ⟨rfl, rfl, rfl⟩ := hv
  refine .nil ?_
  refine W.seqI (ι := Unit) (fun _ => True) (fun _ => [(0, .func (.yield l) #[] #[]), (1, ptr k), (3, byte c), (4, byte (x.getD 1 0))]) (fun _ => .blk l (.loop r) :: rdR b nx :: cel k 80 [ptr b] :: q) (fun _ => cs) ?_ ?_
  ·
    refine W.seq ?_
    refine W.region ?_
    refine .op (.y (y_move rfl) ?_)
    refine .op (.y (y_eqlN (i := c.toNat) (j := 0) rfl rfl) ?_)
    refine .nil ?_
    refine W.cond rfl (fun hc25 => ?_) (fun hc25 => ?_)
    ·
      try simp only [decide_eq_true_eq, decide_eq_false_iff_not, Bool.not_eq_true', Bool.not_eq_false', Int.ofNat_lt, Int.ofNat_le, Int.not_lt, Nat.not_lt, Int.not_le, Nat.not_le, Int.natCast_inj, ne_eq, Decidable.not_not] at hc25
      have hc0 : c = 0 := UInt8.toNat_inj.1 (by simpa using hc25)
      rw [if_pos hc0] at hnx
      refine W.region ?_
      refine .op (.y (y_load 2 rfl rfl rfl F.sc80) ?_)
      refine .op (o_call1 0 (reader_take (n := 1) (s := x.drop 1) (by rw [List.length_drop]; omega) (by omega)) rfl F.cal43 rfl rfl rfl (by simp) (fun v rs' cs' hv => ?_))
      obtain ⟨rfl, rfl, rfl⟩ := hv
      refine .nil ?_
      exact ⟨(), by first | trivial | omega, rfl, ⟨rfl, rfl, rfl, rfl, trivial⟩, ⟨[], by rw [hnx, List.append_nil]; exact List.Perm.swap _ _ _⟩, by simp⟩
    ·
      try simp only [decide_eq_true_eq, decide_eq_false_iff_not, Bool.not_eq_true', Bool.not_eq_false', Int.ofNat_lt, Int.ofNat_le, Int.not_lt, Nat.not_lt, Int.not_le, Nat.not_le, Int.natCast_inj, ne_eq, Decidable.not_not] at hc25
      have hc0 : c ≠ 0 := fun h => hc25 (by rw [h]; rfl)
      rw [if_neg hc0] at hnx
      refine W.skip ?_
      exact ⟨(), by first | trivial | omega, rfl, ⟨rfl, rfl, rfl, rfl, trivial⟩, ⟨[], by rw [hnx, List.append_nil]; exact List.Perm.swap _ _ _⟩, by simp⟩
  ·
    rintro _ _hj
    refine W.seq ?_
    refine W.region ?_
    refine .op (.y (y_move rfl) ?_)
    refine .op (.y (y_move rfl) ?_)
    refine .op (.y (y_move rfl) ?_)
    refine .op (o_yield hys rfl rfl (rest := [rdR b nx, cel k 80 [ptr b]]) (List.Perm.cons _ (List.perm_append_comm (l₁ := [_, _]))) (by simp) ?_ (by simp))
    rintro e rs' cs' ⟨v, rfl, q', r2, rfl, rfl, rfl, hq1, hq2⟩
    refine .op (.y (y_not rfl) ?_)
    refine .nil ?_
    refine W.cond rfl (fun hc32 => ?_) (fun hc32 => ?_)
    ·
      try simp only [decide_eq_true_eq, decide_eq_false_iff_not, Bool.not_eq_true', Bool.not_eq_false', Int.ofNat_lt, Int.ofNat_le, Int.not_lt, Nat.not_lt, Int.not_le, Nat.not_le, Int.natCast_inj, ne_eq, Decidable.not_not] at hc32
      obtain rfl : i = s.length := by omega
      obtain ⟨hq, rfl⟩ := hq2 rfl
      obtain ⟨rfl, _⟩ := hend rfl
      refine W.ret ?_
      exact ret0 rfl (.blk l (.loop { r with state := .done, pending := some jj }) :: (q' ++ [rdR b nx])) [] ⟨_, rfl, rfl, ⟨q', hq, rfl⟩, rfl⟩ (List.Sublist.cons_cons _ (List.Sublist.append_left (by simp) q')) (by simp)
    ·
      try simp only [decide_eq_true_eq, decide_eq_false_iff_not, Bool.not_eq_true', Bool.not_eq_false', Int.ofNat_lt, Int.ofNat_le, Int.not_lt, Nat.not_lt, Int.not_le, Nat.not_le, Int.natCast_inj, ne_eq, Decidable.not_not] at hc32
      obtain ⟨hq, rfl⟩ := hq1 hc32
      rw [hgo hc32]
      refine W.skip ?_
      exact ⟨(i + 1, q'), ⟨by omega, hq⟩, by first | omega | (simp only; omega), rfl, ⟨rfl, rfl, trivial⟩, ⟨[], by rw [List.append_nil]; exact List.Perm.cons _ (List.perm_append_comm (l₂ := [_, _]))⟩, by simp⟩
/-! ### text -/
def bytesV (l : List UInt8) : List (List Value) := l.map fun c => [byte c]
theorem bytesV_len (l : List UInt8) : (bytesV l).length = l.length := by simp [bytesV]
theorem nextB_zero' {s r : List UInt8} {i : Nat} (h : i < s.length) : ¬ (s.getD i 0 = 0 ∧ nextB s r i = 0) := fun ⟨h1, h2⟩ => by rw [nextB_zero h h1] at h2; cases h2
theorem reader_text {b : Nat} {s rest : List UInt8} (hs : s.length ≤ 100000000) : Spec Tryd.prog 44 #[ptr b] [rdR b (tB s rest)] [] (RetP fun u rs cs => u = str s ∧ rs = [rdR b rest] ∧ cs = []) := by
  refine Spec.body (args := [ptr b]) (n := 29) Tryd.func44 rfl Tryd.ntmps44 (by simp) fun w0 hw0 => ?_
  refine W.seq ?_
  refine W.region ?_
  refine .op (.y (y_assign rfl) ?_)
  refine .nil ?_
  refine W.seq ?_
  refine W.region ?_
  refine .op (o_allocC [(.slice none 0 0)] F.ze76 rfl (fun b3 hb3 => ?_))
  refine .nil ?_
  refine W.seq ?_
  refine W.seq ?_
  refine W.nilRow 5 1 ?_
  refine W.region ?_
  refine .op (.y (y_move rfl) ?_)
  refine .op (o_call reader_pairs F.cal76 rfl rfl rfl (by simp) (fun v rs' cs' hv => ?_))
  obtain ⟨k, rfl, rfl, rfl⟩ := hv
  refine .nil ?_
  refine W.block ?_
  refine W.rangeFunc rfl F.cal97 (fun l d fn tmps hag hl hd => ⟨_, [], [], _, ((perm_at (i := 3) rfl).trans (List.Perm.cons _ ((perm_at (i := 0) rfl).trans (List.Perm.cons _ ((perm_at (i := 1) rfl).trans (List.Perm.cons _ ((perm_at (i := 0) rfl).trans (List.Perm.cons _ (List.Perm.refl _))))))))), by simp, reader_pairs1 (b := b) (q0 := [cel b3 76 [.slice none 0 0], .row (.slice none 0 0) 5 1 (bytesV (s.take 0))]) (s := s) (rest := rest) (jj := .exit 0) (J := fun i q => ∃ w, q = [cel b3 76 [w], .row w 5 1 (bytesV (s.take i))]) ⟨_, rfl⟩ (fun i hi q hq => ?_) (fun q hq => ?_), fun e rs' cs' hp => ?_⟩)
  ·
    obtain ⟨w, rfl⟩ := hq
    have hnz := nextB_zero' (r := rest) hi
    have hz := nextB_zero (r := rest) hi
    generalize nextB s rest i = nb at *
    generalize hcc : s.getD i 0 = c at *
    refine YSpec.round (n := 29) rfl rfl hag (by simp) fun w1 hw1 => ?_
    refine W.seq ?_
    refine W.region ?_
    refine .op (.y (y_assign rfl) ?_)
    refine .nil ?_
    refine W.region ?_
    refine .op (.y (y_assign rfl) ?_)
    refine .nil ?_
    refine ⟨_, List.Perm.refl _, ?_⟩
    refine W.block ?_
    refine W.seq ?_
    refine W.seq ?_
    refine W.region ?_
    refine .op (.y (y_move rfl) ?_)
    refine .op (.y (y_eqlN (j := 0) rfl rfl) ?_)
    refine .op (.y (y_move rfl) ?_)
    refine .caseB 12 rfl (fun hs12 => ?_) (fun hs12 => ?_)
    ·
      obtain rfl : c = 0 := UInt8.toNat_inj.1 (by simpa using hs12)
      obtain rfl : nb = 255 := hz rfl
      refine .op (.y (y_move rfl) ?_)
      refine .op (.y (y_eqlN (j := 0) rfl rfl) ?_)
      refine .op (.y (y_pick rfl rfl) ?_)
      refine .nil ?_
      refine W.condF (rfl) ?_
      refine W.skip ?_
      refine W.seq ?_
      refine W.region ?_
      refine .op (.y (y_move rfl) ?_)
      refine .op (.y (y_neqN (j := 0) rfl rfl) ?_)
      try rw [show decide (c.toNat ≠ 0) = true from decide_eq_true hcn]
      refine .op (.y (y_move rfl) ?_)
      refine .op (.y (y_move rfl) ?_)
      refine .op (.y (y_eqlN (j := 255) rfl rfl) ?_)
      refine .op (.y (y_pick rfl rfl) ?_)
      refine .op (o_callV code_need F.cal42 rfl rfl rfl (by simp) ?_)
      refine .nil ?_
      refine W.region ?_
      refine .op (.y (y_load 1 rfl rfl rfl F.sc76) ?_)
      refine .op (.y (y_move rfl) ?_)
      refine .op (o_buildD1 _ _ Tryd.underlying76 F.ze5 rfl rfl rfl rfl rfl rfl (by omega) (fun gb25 hgb25 => ?_))
      refine .op (o_append 3 rfl rfl rfl (.inl ⟨0, _, rfl⟩) Tryd.underlying76 F.ze5 rfl (by omega) (by simp only [bytesV_len, List.length_take, List.length_map, List.length_reverse, List.length_cons, List.length_nil]; omega) (by omega) (by simp [byte, Value.oneCell']) (fun v' hv' hE => ?_))
      obtain ⟨gb', cap', rfl⟩ := hv' (by simp)
      refine .op (o_store 2 rfl rfl rfl rfl (by simp) F.sz76 ?_)
      refine .nil ?_
      exact ⟨[_, _], [_], [], ((perm_at (i := 1) rfl).trans (List.Perm.cons _ ((perm_at (i := 1) rfl).trans (List.Perm.cons _ ((perm_at (i := 1) rfl).trans (List.Perm.cons _ ((perm_at (i := 0) rfl).trans (List.Perm.cons _ (List.Perm.refl _))))))))), by simp, _, rfl, rfl, ⟨_, ⟨_, by rw [take_getD hi 0, hcc, bytesV, bytesV, List.map_append]; rfl⟩, rfl⟩, rfl⟩
    ·
      have hcn : c.toNat ≠ 0 := by simpa using hs12
      refine .off rfl rfl rfl ?_
      refine .off rfl rfl rfl ?_
      refine .op (.y (y_pick rfl rfl) ?_)
      refine .nil ?_
      refine W.condF (rfl) ?_
      refine W.skip ?_
      refine W.seq ?_
      refine W.region ?_
      refine .op (.y (y_move rfl) ?_)
      refine .op (.y (y_neqN (j := 0) rfl rfl) ?_)
      try rw [show decide (c.toNat ≠ 0) = true from decide_eq_true hcn]
      refine .op (.y (y_move rfl) ?_)
      refine .off rfl rfl rfl ?_
      refine .off rfl rfl rfl ?_
      refine .op (.y (y_pick rfl rfl) ?_)
      refine .op (o_callV code_need F.cal42 rfl rfl rfl (by simp) ?_)
      refine .nil ?_
      refine W.region ?_
      refine .op (.y (y_load 1 rfl rfl rfl F.sc76) ?_)
      refine .op (.y (y_move rfl) ?_)
      refine .op (o_buildD1 _ _ Tryd.underlying76 F.ze5 rfl rfl rfl rfl rfl rfl (by omega) (fun gb25 hgb25 => ?_))
      refine .op (o_append 3 rfl rfl rfl (.inl ⟨0, _, rfl⟩) Tryd.underlying76 F.ze5 rfl (by omega) (by simp only [bytesV_len, List.length_take, List.length_map, List.length_reverse, List.length_cons, List.length_nil]; omega) (by omega) (by simp [byte, Value.oneCell']) (fun v' hv' hE => ?_))
      obtain ⟨gb', cap', rfl⟩ := hv' (by simp)
      refine .op (o_store 2 rfl rfl rfl rfl (by simp) F.sz76 ?_)
      refine .nil ?_
      exact ⟨[_, _], [_], [], ((perm_at (i := 1) rfl).trans (List.Perm.cons _ ((perm_at (i := 1) rfl).trans (List.Perm.cons _ ((perm_at (i := 1) rfl).trans (List.Perm.cons _ ((perm_at (i := 0) rfl).trans (List.Perm.cons _ (List.Perm.refl _))))))))), by simp, _, rfl, rfl, ⟨_, ⟨_, by rw [take_getD hi 0, hcc, bytesV, bytesV, List.map_append]; rfl⟩, rfl⟩, rfl⟩
  ·
    obtain ⟨w, rfl⟩ := hq
    refine YSpec.round (n := 29) rfl rfl hag (by simp) fun w1 hw1 => ?_
    refine W.seq ?_
    refine W.region ?_
    refine .op (.y (y_assign rfl) ?_)
    refine .nil ?_
    refine W.region ?_
    refine .op (.y (y_assign rfl) ?_)
    refine .nil ?_
    refine ⟨_, List.Perm.refl _, ?_⟩
    refine W.block ?_
    refine W.seq ?_
    refine W.seq ?_
    refine W.region ?_
    refine .op (.y (y_move rfl) ?_)
    refine .op (.y (y_eqlN (j := 0) rfl rfl) ?_)
    refine .op (.y (y_move rfl) ?_)
    refine .op (.y (y_move rfl) ?_)
    refine .op (.y (y_eqlN (j := 0) rfl rfl) ?_)
    refine .op (.y (y_pick rfl rfl) ?_)
    refine .nil ?_
    refine W.condT (rfl) ?_
    refine W.exit ?_
    exact ⟨[_, _], [], [], by rw [List.append_nil], by simp, _, rfl, rfl, ⟨_, ⟨w, rfl⟩, rfl⟩, rfl⟩
  ·
    obtain ⟨_, rfl, rfl, ⟨q', ⟨w, rfl⟩, rfl⟩, rfl⟩ := hp
    refine ⟨_, _, List.Perm.refl _, by simp, ?_⟩
    rw [List.take_length]
    refine W.exit ?_
    refine W.seq ?_
    refine W.region ?_
    refine .op (.y (y_load 1 rfl rfl rfl F.sc76) ?_)
    refine .op (.y (y_bytesR 2 (l := s) rfl rfl Tryd.underlying76 Tryd.underlying5 Tryd.underlying9) ?_)
    refine .op (.y (y_assign rfl) ?_)
    refine .nil ?_
    refine W.ret ?_
    refine RetQ.marked (D := [d]) (rest := [cel b3 76 [w], .row w 5 1 (bytesV s), rdR b rest]) (List.Perm.refl _) ?_
    exact ret1 rfl rfl [rdR b rest] [] ⟨_, rfl, rfl, rfl, rfl⟩ (by simp) (by simp)
end Go.Proofs.Sep
