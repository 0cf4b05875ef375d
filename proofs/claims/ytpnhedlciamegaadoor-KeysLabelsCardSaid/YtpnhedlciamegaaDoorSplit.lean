/- Package code: Split of what Join makes. -/
import Derived.Test.YtpnhedlciamegaaDoorRead
import Derived.Test.YtpnhedlciamegaaDoorSepR
set_option linter.all false
set_option linter.unusedSimpArgs false
set_option linter.unnecessarySimpa false
set_option linter.deprecated false
set_option maxRecDepth 100000
set_option linter.unusedVariables false
namespace Go.Proofs.Sep
open Go Go.RowKit

/-- What read's caller gets told: what is left, and what became of what was handed over. -/
theorem read1_ret {b4 b5 : Nat} : SpecD Tryd.prog 75 #[ptr b4, ptr b5] .returning [] [] (fun e u rs cs => u = (recovers .returning).2 ∧ Val (.tuple #[]) e rs cs) := by
  refine SpecD.body (args := [ptr b4, ptr b5]) (n := 10) (d := 5) Tryd.func75 rfl Tryd.ntmps75 (by simp) rfl rfl rfl (fun ρ w => rfl) fun w0 hw0 => ?_
  refine .op (.y (y_assertNil rfl Tryd.underlying127 (by simp) F.ze127) ?_)
  refine .op (.y (y_move rfl) ?_)
  refine .op (.y (y_extract rfl rfl) ?_)
  refine .op (.y (y_extract rfl rfl) ?_)
  refine .op (o_allocC [] F.ze127 rfl (fun b2 hb2 => ?_))
  refine .op (o_storeN (vs := []) 0 rfl rfl rfl rfl (by simp) (by simp) F.sz127 ?_)
  refine .op (.y (y_assign rfl) ?_)
  refine .nil ?_
  refine W.seq ?_
  refine W.region ?_
  refine .op (.y (y_move rfl) ?_)
  refine .nil ?_
  refine W.condF (rfl) ?_
  refine W.skip ?_
  exact ⟨rfl, end0 rfl [] [] ⟨rfl, rfl, rfl⟩ (by simp) (by simp)⟩
theorem code_read {s : List UInt8} {g : FuncId} {c1 c2 : List Value} {rs0 : List Res} {Fs : List Frag} {R : List UInt8 → List Res → Prop} (hc : Callee Tryd.prog g) (hs : ∀ b, Spec Tryd.prog g (c1 ++ [ptr b] ++ c2).toArray (rdR b s :: rs0) Fs (RetP fun u rs cs => u = .tuple #[] ∧ (∃ s' rs', rs = rdR b s' :: rs' ∧ R s' rs') ∧ cs = [])) : Spec Tryd.prog 40 #[str s, .func (.func g) c1.toArray c2.toArray] rs0 Fs (RetP fun u rs cs => ∃ s', u = .tuple #[str s', .bool true] ∧ R s' rs ∧ cs = []) := by
  refine Spec.bodyL (args := [str s, .func (.func g) c1.toArray c2.toArray]) (n := 18) Tryd.func40 rfl Tryd.ntmps40 (by simp) fun w0 hw0 => ?_
  refine W.seq ?_
  refine W.region ?_
  refine .op (o_allocC [(str [])] F.ze9 rfl (fun b4 hb4 => ?_))
  refine .op (o_allocC [(.bool false)] F.ze4 rfl (fun b5 hb5 => ?_))
  refine .nil ?_
  refine W.seq ?_
  refine W.region ?_
  refine .op (.y (y_makeFunc rfl rfl) ?_)
  refine .op (o_defer rfl rfl ?_)
  refine .nil ?_
  refine W.seq ?_
  refine W.region ?_
  refine .op (.y (y_move rfl) ?_)
  refine .op (.y (y_build (cs := #[str s]) F.ze82 F.pl82 rfl rfl) ?_)
  refine .op (o_boxA (cs := [str s]) rfl (fun b10 hb10 => ?_))
  refine .op (.y (y_assign rfl) ?_)
  refine .nil ?_
  refine W.seq ?_
  refine W.region ?_
  refine .op (.y (y_move rfl) ?_)
  refine .op (.y (y_move rfl) ?_)
  refine .op (o_callF (rs := rdR b10 s :: rs0) (rest := [_, _]) (hs b10) hc rfl rfl (by simp) (List.Perm.cons _ (List.perm_append_comm (l₁ := [_, _]))) (by simp) (fun v rs' cs' hv => ?_))
  obtain ⟨rfl, ⟨s', rs2, rfl, hR⟩, rfl⟩ := hv
  refine .nil ?_
  refine W.seq ?_
  refine W.region ?_
  refine .op (.y (y_move rfl) ?_)
  refine .op (.y (y_nilCheck rfl) ?_)
  refine .op (.y (y_field rfl F.fld82_0) ?_)
  refine .op (.y (y_load 2 rfl rfl rfl F.sc9) ?_)
  refine .op (o_store 1 rfl rfl rfl rfl (by simp) F.sz9 ?_)
  refine .op (o_store 0 rfl rfl rfl rfl (by simp) F.sz4 ?_)
  refine .nil ?_
  refine W.ret ?_
  refine Leave.call (av := #[]) (c2 := #[ptr b4, ptr b5]) (rsd := []) (csd := []) (rest := _) (read1_ret (b4 := b4) (b5 := b5)) (by simp) F.cal75 (by simp) (List.Perm.refl _) (by simp) ?_
  rintro e u' rs' cs' ⟨rfl, rfl, rfl, rfl⟩
  refine Leave.ret ?_
  exact retCC rfl rfl rfl (fun w h => run_loadResS (cs := []) F.sc9 (h (cel b4 9 [str s']) (by simp))) (fun w h => run_loadResS (cs := []) F.sc4 (h (cel b5 4 [.bool true]) (by simp))) rs2 [] ⟨_, rfl, _, rfl, hR, rfl⟩ (List.sublist_append_right [_, _, _] rs2) (by simp)
theorem joinB_cons (s : List UInt8) (l : List (List UInt8)) : joinB (s :: l) = 4 :: tB s (joinB l) := by simp [joinB, joinE, textB, tB]
theorem split1 {b bl : Nat} {l : List (List UInt8)} (hl : l.length ≤ 1000000) (hs : ∀ s ∈ l, s.length ≤ 100000000) : Spec Tryd.prog 41 #[ptr b, ptr bl] [rdR b (joinB l), cel bl 26 [.slice none 0 0]] [] (RetP fun u rs cs => u = .tuple #[] ∧ (∃ s' rs', rs = rdR b s' :: rs' ∧ ∃ w, rs' = [cel bl 26 [w], .row w 9 1 (strs l)]) ∧ cs = []) := by
  refine Spec.body (args := [ptr b, ptr bl]) (n := 18) Tryd.func41 rfl Tryd.ntmps41 (by simp) fun w0 hw0 => ?_
  refine W.nilRow 9 1 ?_
  refine W.block ?_
  refine W.loopI (ι := Nat × Value) (fun ⟨i, w⟩ => i ≤ l.length ∧ w.oneCell' = true) (fun ⟨i, w⟩ => [(0, ptr b), (1, ptr bl)]) (fun ⟨i, w⟩ => [rdR b (joinB (l.drop i)), cel bl 26 [w], .row w 9 1 (strs (l.take i))]) (fun ⟨i, w⟩ => []) (fun ⟨i, w⟩ => l.length - i) (0, .slice none 0 0) (⟨by omega, rfl⟩)
    ⟨rfl, ⟨rfl, rfl, trivial⟩, at3 1 1 0 rfl rfl rfl, by simp⟩ ?_
  rintro ⟨i, w⟩ hG
  try simp only at hG ⊢
  obtain ⟨him, hw1⟩ := hG
  refine W.seq ?_
  refine W.seq ?_
  refine W.region ?_
  refine .op (.y (y_move rfl) ?_)
  refine .op (.y (y_nilCheck rfl) ?_)
  refine .op (.y (y_field rfl F.fld82_0) ?_)
  refine .op (.y (y_load 0 rfl rfl rfl F.sc9) ?_)
  refine .op (.y (y_sneq rfl rfl) ?_)
  refine .nil ?_
  refine W.cond rfl (fun hc7 => ?_) (fun hc7 => ?_)
  ·
    try simp only [decide_eq_true_eq, decide_eq_false_iff_not, Bool.not_eq_true', Bool.not_eq_false', Int.ofNat_lt, Int.ofNat_le, Int.not_lt, Nat.not_lt, Int.not_le, Nat.not_le, Int.natCast_inj, ne_eq, Decidable.not_not] at hc7
    have hlt : i < l.length := by
        by_cases h : i < l.length
        · exact h
        · exact absurd (by rw [List.drop_of_length_le (by omega)]; rfl) hc7
    have hd := drop_getD hlt []
    have hsi : (l.getD i []).length ≤ 100000000 := hs _ (by rw [List.getD_eq_getElem?_getD, List.getElem?_eq_getElem hlt]; exact List.getElem_mem hlt)
    rw [hd, joinB_cons]
    refine W.skip ?_
    refine W.block ?_
    refine W.seq ?_
    refine W.region ?_
    refine .op (.y (y_move rfl) ?_)
    refine .op (o_call1 0 (reader_take (n := 1) (s := 4 :: tB (l.getD i []) (joinB (l.drop (i + 1)))) (by simp) (by omega)) rfl F.cal43 rfl rfl rfl (by simp) (fun v rs' cs' hv => ?_))
    obtain ⟨rfl, rfl, rfl⟩ := hv
    refine .op (.y (y_sindexN (i := 0) rfl rfl Tryd.underlying9 (by simp)) ?_)
    refine .op (.y (y_eqlN (j := 4) rfl rfl) ?_)
    refine .op (o_callV code_need F.cal42 rfl rfl rfl (by simp) ?_)
    refine .nil ?_
    refine W.draw F.mixed (true, [([], []), ([], []), ([1], [1]), ([2], [2]), ([0, 3, 2], [0, 3]), ([4, 4, 0, 1, 2, 3, 4], [4])]) [4, 5] (by kernel_rfl) [cel bl 26 [w]] [] ⟨by simp, by simp⟩ ?_
    refine .take 0 rfl (by decide) (y_load 0 rfl rfl rfl F.sc26) ?_
    refine .takeP 1 rfl (by decide) (y_move rfl) ?_
    refine .one 2 (by decide) rfl (o_call1 0 (reader_text (s := l.getD i []) (rest := joinB (l.drop (i + 1))) hsi) rfl F.cal44 rfl rfl rfl (by simp) (fun v rs' cs' hv => ⟨(by obtain ⟨rfl, rfl, rfl⟩ := hv; exact ⟨by simp, by simp⟩), ?_⟩))
    obtain ⟨rfl, rfl, rfl⟩ := hv
    refine .one 3 (by decide) rfl (o_buildD1 _ _ Tryd.underlying26 F.ze9 rfl rfl rfl rfl rfl rfl (by omega) (fun gb16 hgb16 => ⟨⟨by simp, by simp⟩, ?_⟩))
    refine .sw (by decide) ?_
    refine .one 4 (by decide) rfl (o_append 3 rfl rfl rfl (.inl ⟨0, _, rfl⟩) Tryd.underlying26 F.ze9 rfl (by omega) (by simp only [strs_len, List.length_take, List.length_map, List.length_reverse, List.length_cons, List.length_nil]; omega) (by omega) (by simp [str, Value.oneCell']) (fun v' hv' hE => ⟨Incl.none _ _, ?_⟩))
    obtain ⟨gb', cap', rfl⟩ := hv' (by simp)
    refine .one 5 (by decide) rfl (o_store 2 rfl rfl rfl rfl (by simp) F.sz26 ⟨Incl.none _ _, ?_⟩)
    refine .done (by decide) ?_
    exact ⟨(i + 1, _), ⟨by omega, rfl⟩, by first | omega | (simp only; omega), rfl, ⟨rfl, rfl, trivial⟩, by rw [show strs (l.take (i + 1)) = strs (l.take i) ++ [[str (l.getD i [])]] from by rw [take_getD hlt [], strs_app]; rfl]; exact at3 1 1 1 rfl rfl rfl, by simp⟩
  ·
    try simp only [decide_eq_true_eq, decide_eq_false_iff_not, Bool.not_eq_true', Bool.not_eq_false', Int.ofNat_lt, Int.ofNat_le, Int.not_lt, Nat.not_lt, Int.not_le, Nat.not_le, Int.natCast_inj, ne_eq, Decidable.not_not] at hc7
    refine W.exit ?_
    have hi' : i = l.length := by
        by_cases h : i < l.length
        · rw [drop_getD h [], joinB_cons] at hc7; cases hc7
        · omega
    subst hi'
    rw [List.take_length]
    exact end0 rfl [rdR b (joinB (l.drop l.length)), cel bl 26 [w], .row w 9 1 (strs l)] [] ⟨_, rfl, rfl, ⟨_, _, rfl, w, rfl⟩, rfl⟩ (List.Sublist.refl _) (by simp)
theorem code_Split {l : List (List UInt8)} (hl : l.length ≤ 1000000) (hs : ∀ s ∈ l, s.length ≤ 100000000) : Spec Tryd.prog 12 #[str (joinB l)] [] [] (RetP fun u rs cs => ∃ w, u = .tuple #[w, .int .i64 0] ∧ rs = [.row w 9 1 (strs l)] ∧ cs = []) := by
  refine Spec.body (args := [str (joinB l)]) (n := 16) Tryd.func12 rfl Tryd.ntmps12 (by simp) fun w0 hw0 => ?_
  refine W.seq ?_
  refine W.region ?_
  refine .op (.y (y_assign rfl) ?_)
  refine .op (.y (y_assign rfl) ?_)
  refine .nil ?_
  refine W.seq ?_
  refine W.region ?_
  refine .op (o_allocC [(.slice none 0 0)] F.ze26 rfl (fun b4 hb4 => ?_))
  refine .nil ?_
  refine W.seq ?_
  refine W.region ?_
  refine .op (.y (y_move rfl) ?_)
  refine .op (.y (y_makeFunc rfl rfl) ?_)
  refine .op (o_callR (rs := [cel b4 26 [.slice none 0 0]]) (rest := []) (code_read (g := 41) (s := joinB l) (c1 := []) (c2 := [ptr b4]) (Fs := []) (R := fun s' rs' => ∃ w, rs' = [cel b4 26 [w], .row w 9 1 (strs l)]) F.cal41 (fun b => split1 hl hs)) F.cal40 rfl rfl rfl (List.Perm.refl _) (by simp) (fun v rs' cs' hv => ?_))
  obtain ⟨s', rfl, ⟨w, rfl⟩, rfl⟩ := hv
  refine .op (.y (y_move rfl) ?_)
  refine .op (.y (y_extract rfl rfl) ?_)
  refine .op (.y (y_extract rfl rfl) ?_)
  refine .op (.y (y_assign rfl) ?_)
  refine .op (.y (y_assign rfl) ?_)
  refine .nil ?_
  refine W.seq ?_
  refine W.seq ?_
  refine W.region ?_
  refine .op (.y (y_move rfl) ?_)
  refine .op (.y (y_not rfl) ?_)
  refine .nil ?_
  refine W.condF (rfl) ?_
  refine W.skip ?_
  refine W.seq ?_
  refine W.region ?_
  refine .op (.y (y_load 0 rfl rfl rfl F.sc26) ?_)
  refine .op (.y (y_assign rfl) ?_)
  refine .op (.y (y_assign rfl) ?_)
  refine .nil ?_
  refine W.ret ?_
  exact ret2 rfl rfl rfl [.row w 9 1 (strs l)] [] ⟨_, rfl, w, rfl, rfl, rfl⟩ (by simp) (by simp)
end Go.Proofs.Sep
