/- KeysLabels. -/
import Derived.Test.YtpnhedlciamegaaDoorLabels
import Derived.Test.YtpnhedlciamegaaDoorSepR
set_option linter.all false
set_option linter.unusedSimpArgs false
set_option linter.unnecessarySimpa false
set_option linter.deprecated false
set_option maxRecDepth 100000
set_option linter.unusedVariables false
namespace Go.Proofs.Sep
open Go Go.RowKit
theorem keysLabels_spec {φ φa φb : Frag} {ka ba kb bb : List UInt8} {pa pb : Value} {la lb : List (List UInt8)} (hG : KeysG φ) (ha : Sl φa pa 1 (strs la)) (hb : Sl φb pb 1 (strs lb)) : Spec Tryd.prog 4 #[keyV ka pa ba, keyV kb pb bb] [] [φ, φa, φb] (Val (.bool true)) := by
  refine Spec.body (args := [keyV ka pa ba, keyV kb pb bb]) (n := 66) Tryd.func4 rfl Tryd.ntmps4 (by simp) fun w0 hw0 => ?_
  have h1a : pa.oneCell' = true := (by obtain ⟨A, c, rfl, _⟩ := ha.form; rfl)
  have h1b : pb.oneCell' = true := (by obtain ⟨A, c, rfl, _⟩ := hb.form; rfl)
  refine W.seq ?_
  refine W.region ?_
  refine .op (o_boxC (cs := [str ka, pa, str ba]) rfl rfl (fun b2 hb2 => ?_))
  refine .op (o_boxC (cs := [str kb, pb, str bb]) rfl rfl (fun b3 hb3 => ?_))
  refine .op (.y (y_assign rfl) ?_)
  refine .nil ?_
  refine W.seq ?_
  refine W.region ?_
  refine .op (o_callV (law14_works hG) F.cal8 rfl rfl rfl (by simp) ?_)
  refine .op (.y (y_assign rfl) ?_)
  refine .nil ?_
  refine W.seq ?_
  refine W.seq ?_
  refine W.region ?_
  refine .op (.y (y_move rfl) ?_)
  refine .op (.y (y_not rfl) ?_)
  refine .nil ?_
  refine W.condF (rfl) ?_
  refine W.skip ?_
  refine W.seq ?_
  refine W.region ?_
  refine .op (.y (y_loadA 1 rfl rfl (by simp) F.agg28) ?_)
  refine .op (o_call (law14_few ha) F.cal10 rfl rfl rfl (by simp) (fun v15 rs15 cs15 hv15 => ?_))
  obtain ⟨⟨ra, rfl, hfa⟩, rfl, rfl⟩ := hv15
  refine .op (.y (y_move rfl) ?_)
  refine .caseB 16 rfl (fun hs16 => ?_) (fun hs16 => ?_)
  ·
    have hfa := hfa hs16
    refine .op (.y (y_loadA 0 rfl rfl (by simp) F.agg28) ?_)
    refine .op (o_call (law14_few hb) F.cal10 rfl rfl rfl (by simp) (fun v18 rs18 cs18 hv18 => ?_))
    try obtain ⟨⟨rb, rfl, hfb⟩, rfl, rfl⟩ := hv18
    refine .op (.y (y_pick rfl rfl) ?_)
    refine .op (.y (y_assign rfl) ?_)
    refine .nil ?_
    refine W.seq ?_
    refine W.seq ?_
    refine W.region ?_
    refine .op (.y (y_move rfl) ?_)
    refine .op (.y (y_not rfl) ?_)
    refine .nil ?_
    refine W.cond rfl (fun hc21 => ?_) (fun hc21 => ?_)
    ·
      refine W.seq ?_
      refine W.region ?_
      refine .op (.y (y_move rfl) ?_)
      refine .op (.y (y_assign rfl) ?_)
      refine .nil ?_
      refine W.ret ?_
      exact ret1 rfl rfl [] [] ⟨rfl, rfl, rfl⟩ (by simp) (by simp)
    ·
      have hfb := hfb (by simpa using hc21)
      obtain ⟨ha1, ha2, ha3⟩ := few_join hfa
      obtain ⟨hb1, hb2', hb3'⟩ := few_join hfb
      refine W.skip ?_
      refine W.seq ?_
      refine W.region ?_
      refine .op (.y (y_field rfl F.fld28_0) ?_)
      refine .op (.y (y_load 1 rfl rfl rfl F.sc9) ?_)
      refine .op (.y (y_field rfl F.fld28_0) ?_)
      refine .op (.y (y_load 0 rfl rfl rfl F.sc9) ?_)
      refine .op (.y (y_seql rfl rfl) ?_)
      refine .op (.y (y_move rfl) ?_)
      refine .caseB 28 rfl (fun hs28 => ?_) (fun hs28 => ?_)
      ·
        have hk : ka = kb := of_decide_eq_true hs28
        have hj : decide (joinB (ka :: la) = joinB (kb :: lb)) = decide (la = lb) := by rw [decide_eq_decide]; exact ⟨fun h => (List.cons.inj (joinB_inj h)).2, fun h => by rw [hk, h]⟩
        refine .op (.y (y_field rfl F.fld28_1) ?_)
        refine .op (.y (y_load 1 rfl rfl rfl F.sc26) ?_)
        refine .op (.y (y_field rfl F.fld28_1) ?_)
        refine .op (.y (y_load 0 rfl rfl rfl F.sc26) ?_)
        refine .op (o_callV (ref_Texts ha hb) F.cal11 rfl rfl rfl (by simp) ?_)
        refine .op (.y (y_pick rfl rfl) ?_)
        refine .op (.y (y_assign rfl) ?_)
        refine .nil ?_
        refine W.seq ?_
        refine W.region ?_
        refine .op (.y (y_loadA 1 rfl rfl (by simp) F.agg28) ?_)
        refine .op (o_callV (keys_Label ha ha1 ha2) F.cal13 rfl rfl rfl (by simp) ?_)
        refine .op (o_callR (rs := []) (rest := _) (code_Split (l := ka :: la) (by rw [List.length_cons]; have := hfa.2.1; omega) (fun s hs => by have := ha3 s hs; omega)) F.cal12 rfl rfl rfl (List.Perm.refl _) (by simp) (fun v38 rs38 cs38 hv38 => ?_))
        obtain ⟨w38, rfl, rfl, rfl⟩ := hv38
        refine .op (.y (y_move rfl) ?_)
        refine .op (.y (y_extract rfl rfl) ?_)
        refine .op (.y (y_extract rfl rfl) ?_)
        refine .op (.y (y_assign rfl) ?_)
        refine .op (.y (y_assign rfl) ?_)
        refine .nil ?_
        refine W.seq ?_
        refine W.region ?_
        refine .op (.y (y_move rfl) ?_)
        refine .op (.y (y_field rfl F.fld28_0) ?_)
        refine .op (.y (y_load 2 rfl rfl rfl F.sc9) ?_)
        refine .op (o_buildD1 _ _ Tryd.underlying26 F.ze9 rfl rfl rfl rfl rfl rfl (by omega) (fun gb44 hgb44 => ?_))
        refine .op (.y (y_field rfl F.fld28_1) ?_)
        refine .op (.y (y_load 3 rfl rfl rfl F.sc26) ?_)
        refine .op (o_append 0 rfl rfl rfl (.inr ⟨φa, by simp, ha⟩) Tryd.underlying26 F.ze9 rfl (by omega) (by simp only [strs_len, List.length_map, List.length_reverse, List.length_cons, List.length_nil]; have := hfa.2.1; omega) (by omega) strs_cells (fun v47 hv47 hE => ?_))
        refine .op (o_callBV (v := .bool (decide (ka :: la = ka :: la))) (fun w hst => by obtain ⟨φ8, h1, h2⟩ := hst.borrow (i := 1) rfl; obtain ⟨φ9, h3, h4⟩ := hst.borrow (i := 0) rfl; exact ⟨[φ8, φ9], by simp [h1, h3], ref_Texts (l := ka :: la) (m := ka :: la) h2 h4⟩) F.cal11 rfl rfl rfl ?_)
        rw [decide_eq_true rfl]
        refine .op (.y (y_assign rfl) ?_)
        refine .nil ?_
        refine W.seq ?_
        refine W.draw F.mixed (true, [([], []), ([0], [0]), ([1], [1]), ([2, 1, 1], [1, 2]), ([1], [1]), ([4, 3, 1], [1, 4]), ([3, 5, 1], [1, 3, 5]), ([1], [1]), ([6, 7, 1], [1, 6, 7]), ([1, 8], [1, 8]), ([9, 5], [9]), ([10], [10]), ([11, 10], [10, 11]), ([10, 12], [10, 12]), ([13, 10], [13]), ([14], [14]), ([14, 15], [14, 15]), ([16, 14, 0, 1, 2, 3, 4, 5, 6, 7, 8, 9, 10, 11, 12, 13, 14, 15, 16], [16])]) [] (by kernel_rfl) _ _ (Incl.refl _ _) ?_
        refine .takeP 0 rfl (by decide) (y_move rfl) ?_
        refine .takeP 1 rfl (by decide) (y_move rfl) ?_
        refine .take 2 rfl (by decide) (y_loadA 3 rfl rfl (by simp) F.agg28) ?_
        refine .take 4 rfl (by decide) (y_loadA 2 rfl rfl (by simp) F.agg28) ?_
        refine .takeP 7 rfl (by decide) (y_move rfl) ?_
        refine .one 3 (by decide) rfl (o_callV (keys_Label ha ha1 ha2) F.cal13 rfl rfl rfl (by simp) ⟨(by first | exact Incl.refl _ _ | exact ⟨by simp, by simp⟩), ?_⟩)
        refine .one 5 (by decide) rfl (o_callV (keys_Label hb hb1 hb2') F.cal13 rfl rfl rfl (by simp) ⟨(by first | exact Incl.refl _ _ | exact ⟨by simp, by simp⟩), ?_⟩)
        refine .takeP 6 rfl (by decide) (y_seql rfl rfl) ?_
        rw [hj]
        refine .takeP 8 rfl (by decide) (y_eqlB rfl rfl Tryd.underlying4) ?_
        rw [beq_self_eq_true]
        refine .takeP 9 rfl (by decide) (y_pick rfl rfl) ?_
        refine .takeP 10 rfl (by decide) (y_move rfl) ?_
        refine .takeP 11 rfl (by decide) (y_move rfl) ?_
        refine .takeP 12 rfl (by decide) (y_eql rfl rfl) ?_
        refine .takeP 13 rfl (by decide) (y_pick rfl rfl) ?_
        refine .takeP 14 rfl (by decide) (y_move rfl) ?_
        refine .takeP 15 rfl (by decide) (y_move rfl) ?_
        refine .takeP 16 rfl (by decide) (y_pick rfl rfl) ?_
        refine .takeP 17 rfl (by decide) (y_assign rfl) ?_
        refine .done (by decide) ?_
        refine W.ret ?_
        exact ret1 rfl rfl [] [] ⟨rfl, rfl, rfl⟩ (by simp) (by simp)
      ·
        have hk : ka ≠ kb := of_decide_eq_false hs28
        have hj : decide (joinB (ka :: la) = joinB (kb :: lb)) = false := decide_eq_false fun h => hk (List.cons.inj (joinB_inj h)).1
        refine .off rfl rfl rfl ?_
        refine .off rfl rfl rfl ?_
        refine .off rfl rfl rfl ?_
        refine .off rfl rfl rfl ?_
        refine .off rfl rfl rfl ?_
        refine .op (.y (y_pick rfl rfl) ?_)
        refine .op (.y (y_assign rfl) ?_)
        refine .nil ?_
        refine W.seq ?_
        refine W.region ?_
        refine .op (.y (y_loadA 1 rfl rfl (by simp) F.agg28) ?_)
        refine .op (o_callV (keys_Label ha ha1 ha2) F.cal13 rfl rfl rfl (by simp) ?_)
        refine .op (o_callR (rs := []) (rest := _) (code_Split (l := ka :: la) (by rw [List.length_cons]; have := hfa.2.1; omega) (fun s hs => by have := ha3 s hs; omega)) F.cal12 rfl rfl rfl (List.Perm.refl _) (by simp) (fun v38 rs38 cs38 hv38 => ?_))
        obtain ⟨w38, rfl, rfl, rfl⟩ := hv38
        refine .op (.y (y_move rfl) ?_)
        refine .op (.y (y_extract rfl rfl) ?_)
        refine .op (.y (y_extract rfl rfl) ?_)
        refine .op (.y (y_assign rfl) ?_)
        refine .op (.y (y_assign rfl) ?_)
        refine .nil ?_
        refine W.seq ?_
        refine W.region ?_
        refine .op (.y (y_move rfl) ?_)
        refine .op (.y (y_field rfl F.fld28_0) ?_)
        refine .op (.y (y_load 2 rfl rfl rfl F.sc9) ?_)
        refine .op (o_buildD1 _ _ Tryd.underlying26 F.ze9 rfl rfl rfl rfl rfl rfl (by omega) (fun gb44 hgb44 => ?_))
        refine .op (.y (y_field rfl F.fld28_1) ?_)
        refine .op (.y (y_load 3 rfl rfl rfl F.sc26) ?_)
        refine .op (o_append 0 rfl rfl rfl (.inr ⟨φa, by simp, ha⟩) Tryd.underlying26 F.ze9 rfl (by omega) (by simp only [strs_len, List.length_map, List.length_reverse, List.length_cons, List.length_nil]; have := hfa.2.1; omega) (by omega) strs_cells (fun v47 hv47 hE => ?_))
        refine .op (o_callBV (v := .bool (decide (ka :: la = ka :: la))) (fun w hst => by obtain ⟨φ8, h1, h2⟩ := hst.borrow (i := 1) rfl; obtain ⟨φ9, h3, h4⟩ := hst.borrow (i := 0) rfl; exact ⟨[φ8, φ9], by simp [h1, h3], ref_Texts (l := ka :: la) (m := ka :: la) h2 h4⟩) F.cal11 rfl rfl rfl ?_)
        rw [decide_eq_true rfl]
        refine .op (.y (y_assign rfl) ?_)
        refine .nil ?_
        refine W.seq ?_
        refine W.draw F.mixed (true, [([], []), ([0], [0]), ([1], [1]), ([2, 1, 1], [1, 2]), ([1], [1]), ([4, 3, 1], [1, 4]), ([3, 5, 1], [1, 3, 5]), ([1], [1]), ([6, 7, 1], [1, 6, 7]), ([1, 8], [1, 8]), ([9, 5], [9]), ([10], [10]), ([11, 10], [10, 11]), ([10, 12], [10, 12]), ([13, 10], [13]), ([14], [14]), ([14, 15], [14, 15]), ([16, 14, 0, 1, 2, 3, 4, 5, 6, 7, 8, 9, 10, 11, 12, 13, 14, 15, 16], [16])]) [] (by kernel_rfl) _ _ (Incl.refl _ _) ?_
        refine .takeP 0 rfl (by decide) (y_move rfl) ?_
        refine .takeP 1 rfl (by decide) (y_move rfl) ?_
        refine .take 2 rfl (by decide) (y_loadA 3 rfl rfl (by simp) F.agg28) ?_
        refine .take 4 rfl (by decide) (y_loadA 2 rfl rfl (by simp) F.agg28) ?_
        refine .takeP 7 rfl (by decide) (y_move rfl) ?_
        refine .one 3 (by decide) rfl (o_callV (keys_Label ha ha1 ha2) F.cal13 rfl rfl rfl (by simp) ⟨(by first | exact Incl.refl _ _ | exact ⟨by simp, by simp⟩), ?_⟩)
        refine .one 5 (by decide) rfl (o_callV (keys_Label hb hb1 hb2') F.cal13 rfl rfl rfl (by simp) ⟨(by first | exact Incl.refl _ _ | exact ⟨by simp, by simp⟩), ?_⟩)
        refine .takeP 6 rfl (by decide) (y_seql rfl rfl) ?_
        rw [hj]
        refine .takeP 8 rfl (by decide) (y_eqlB rfl rfl Tryd.underlying4) ?_
        rw [beq_self_eq_true]
        refine .takeP 9 rfl (by decide) (y_pick rfl rfl) ?_
        refine .takeP 10 rfl (by decide) (y_move rfl) ?_
        refine .takeP 11 rfl (by decide) (y_move rfl) ?_
        refine .takeP 12 rfl (by decide) (y_eql rfl rfl) ?_
        refine .takeP 13 rfl (by decide) (y_pick rfl rfl) ?_
        refine .takeP 14 rfl (by decide) (y_move rfl) ?_
        refine .takeP 15 rfl (by decide) (y_move rfl) ?_
        refine .takeP 16 rfl (by decide) (y_pick rfl rfl) ?_
        refine .takeP 17 rfl (by decide) (y_assign rfl) ?_
        refine .done (by decide) ?_
        refine W.ret ?_
        exact ret1 rfl rfl [] [] ⟨rfl, rfl, rfl⟩ (by simp) (by simp)
  ·
    refine .off rfl rfl rfl ?_
    refine .off rfl rfl rfl ?_
    try obtain ⟨⟨rb, rfl, hfb⟩, rfl, rfl⟩ := hv18
    refine .op (.y (y_pick rfl rfl) ?_)
    refine .op (.y (y_assign rfl) ?_)
    refine .nil ?_
    refine W.seq ?_
    refine W.seq ?_
    refine W.region ?_
    refine .op (.y (y_move rfl) ?_)
    refine .op (.y (y_not rfl) ?_)
    refine .nil ?_
    refine W.condT (rfl) ?_
    refine W.seq ?_
    refine W.region ?_
    refine .op (.y (y_move rfl) ?_)
    refine .op (.y (y_assign rfl) ?_)
    refine .nil ?_
    refine W.ret ?_
    exact ret1 rfl rfl [] [] ⟨rfl, rfl, rfl⟩ (by simp) (by simp)
end Go.Proofs.Sep
