/- Package keys. -/
import Derived.Test.YtpnhedlciamegaaDoorMac
import Derived.Test.YtpnhedlciamegaaDoorKslices
import Derived.Test.YtpnhedlciamegaaDoorSepP
set_option linter.all false
set_option linter.unusedSimpArgs false
set_option linter.unnecessarySimpa false
set_option linter.deprecated false
set_option maxRecDepth 100000
set_option linter.unusedVariables false
namespace Go.Proofs.Sep
open Go Go.RowKit

abbrev keyV (kind : List UInt8) (pv : Value) (bytes : List UInt8) : Value := .agg #[str kind, pv, str bytes]
def belC (p q : List UInt8 × Int) : List Value := [str p.1, .int .i64 p.2, str q.1, .int .i64 q.2]
/-- What may stand below a kind. -/
def look (φ : Frag) (kk : List UInt8) (p q : List UInt8 × Int) : Prop :=
  ∃ mb, Pt φ (ptr 1) [.map (some mb)] ∧ ∀ w, Sub φ w → (Instr.lookup 154 (.map (some mb)) (str kk) false).run Tryd.prog w = .ok (.agg (belC p q).toArray) w
/-- The bytes of a key below. -/
def downB (bytes : List UInt8) (l : List (List UInt8)) : List UInt8 := (tL bytes (infoK l) (rounds32 32)).take 32
theorem downB_len (bytes : List UInt8) (l : List (List UInt8)) : (downB bytes l).length = 32 := by
  rw [downB, List.length_take, tL_len]
  rfl
theorem keys_Down {φ φp φ2 : Frag} {kk kb kind : List UInt8} {pv v : Value} {kp ps : List (List UInt8)} {p q : List UInt8 × Int} (hsh : ShaG φ) (hlook : look φ kk p q) (hpv : Sl φp pv 1 (strs kp)) (hv : Sl φ2 v 1 (strs ps)) (hps : 0 < ps.length) (hmem : (kind, (ps.length : Int)) ∈ [p, q]) (hkb : kb.length = 32) (hb : ps.length + kp.length ≤ 1000000) (hi : (infoK (kind :: ps)).length ≤ 100000000000) : Spec Tryd.prog 69 #[keyV kk pv kb, str kind, v] [] [φ, φp, φ2] (RetP fun u rs cs => ∃ w, w.oneCell' = true ∧ u = .tuple #[keyV kind w (downB kb (kind :: ps)), .int .i64 0] ∧ rs = [.row w 9 1 (strs (kp ++ ps))] ∧ cs = []) := by
  refine Spec.body (args := [keyV kk pv kb, str kind, v]) (n := 57) Tryd.func69 rfl Tryd.ntmps69 (by simp) fun w0 hw0 => ?_
  obtain ⟨mb, hmay, hfind⟩ := hlook
  refine W.seq ?_
  refine W.region ?_
  refine .op (o_boxA (cs := [str kk, pv, str kb]) rfl (fun b3 hb3 => ?_))
  refine .op (o_allocC [(str []), (.slice none 0 0), (str [])] F.ze28 rfl (fun b6 hb6 => ?_))
  refine .op (.y (y_assign rfl) ?_)
  refine .nil ?_
  refine W.seq ?_
  refine W.region ?_
  refine .op (.y (y_loadP rfl hmay rfl (by simp) F.sc154) ?_)
  refine .op (.y (y_field rfl F.fld28_0) ?_)
  refine .op (.y (y_load 1 rfl rfl rfl F.sc9) ?_)
  refine .op (.y (y_lookupR rfl rfl (by simp) hfind) ?_)
  refine .op (o_allocC [(str []), (.int .i64 0), (str []), (.int .i64 0)] F.ze153 rfl (fun b8 hb8 => ?_))
  refine .op (o_storeN (vs := belC p q) 0 rfl rfl rfl rfl (Nat.le_refl 4) (by intro v hv; simp only [belC, List.mem_cons, List.not_mem_nil, or_false] at hv; rcases hv with h | h | h | h <;> subst h <;> rfl) F.sz153 ?_)
  refine .nil ?_
  refine W.seq ?_
  refine W.seq ?_
  refine W.region ?_
  refine .op (.y (y_move rfl) ?_)
  refine .op (.y (y_lenS rfl hv Tryd.underlying26) ?_)
  rw [strs_len]
  refine .op (.y (y_eqlN (j := 0) rfl rfl) ?_)
  rw [show decide (ps.length = 0) = false from decide_eq_false (by omega)]
  refine .op (.y (y_move rfl) ?_)
  refine .op (.y (y_sliceA (i := 0) (j := 2) rfl Tryd.underlying153 F.sz152 rfl rfl (by omega) (by omega)) ?_)
  refine .op (.y (y_move rfl) ?_)
  refine .op (.y (y_move rfl) ?_)
  refine .op (.y (y_lenS rfl hv Tryd.underlying26) ?_)
  rw [strs_len]
  refine .op (.y (y_build (cs := #[str kind, .int .i64 (ps.length : Int)]) F.ze152 F.pl152 rfl rfl) ?_)
  refine .op (o_callBV (v := .bool (decide ((kind, (ps.length : Int)) ∈ [p, q]))) (fun w hst => by obtain ⟨φ9, h1, h2⟩ := hst.borrowC (i := 0) (cap := 2) (sz := 2) (bels [p, q]) rfl (by simp [bels]) (by simp [bels]) (by simp [bels]) rfl; exact ⟨[φ9], by simpa using h1, slices_Contains_below (p := (kind, (ps.length : Int))) h2⟩) F.cal92 rfl rfl rfl ?_)
  rw [decide_eq_true hmem]
  refine .op (.y (y_not rfl) ?_)
  refine .op (.y (y_pick rfl rfl) ?_)
  refine .op (.y (y_move rfl) ?_)
  refine .op (.y (y_field rfl F.fld28_2) ?_)
  refine .op (.y (y_load 2 rfl rfl rfl F.sc9) ?_)
  refine .op (.y (y_slen rfl Tryd.underlying9) ?_)
  refine .op (.y (y_neqN (i := kb.length) (j := 32) rfl rfl) ?_)
  rw [show decide (kb.length ≠ 32) = false from decide_eq_false (by omega)]
  refine .op (.y (y_pick rfl rfl) ?_)
  refine .nil ?_
  refine W.condF (rfl) ?_
  refine W.skip ?_
  refine W.seq ?_
  refine W.draw F.mixed (true, [([], []), ([0], [0]), ([], []), ([2], [2]), ([], []), ([4], [4]), ([3, 5, 3], [3, 5]), ([1, 6, 6], [1, 6]), ([7], [7]), ([8], [8]), ([8], [8]), ([9, 7, 0, 1, 2, 3, 4, 5, 6, 7, 8, 9], [9]), ([10, 11, 0, 1, 2, 3, 4, 5, 6, 7, 8, 9, 10, 11], [10])]) [] (by kernel_rfl) _ _ (Incl.refl _ _) ?_
  refine .takeP 0 rfl (by decide) (y_field rfl F.fld28_2) ?_
  refine .take 1 rfl (by decide) (y_load 2 rfl rfl rfl F.sc9) ?_
  refine .takeP 2 rfl (by decide) (y_move rfl) ?_
  refine .takeP 4 rfl (by decide) (y_move rfl) ?_
  refine .two 3 5 (by decide) rfl rfl rfl rfl (o_call (slices_Clone_str hv (by omega)) F.cal46 rfl rfl rfl (by simp) (fun v38 rs38 cs38 hv38 => ⟨(by obtain ⟨rfl, rfl⟩ := hv38; exact ⟨by simp, by simp⟩), ?_⟩)) (o_buildD1 [str kind] [[str kind]] Tryd.underlying26 F.ze9 rfl rfl rfl rfl rfl rfl (by omega) (fun gb40 hgb40 => ⟨⟨by simp, by simp⟩, ?_⟩))
  ·
    obtain ⟨rfl, rfl⟩ := hv38
    refine .one 5 (by decide) rfl (o_buildD1 [str kind] [[str kind]] Tryd.underlying26 F.ze9 rfl rfl rfl rfl rfl rfl (by omega) (fun gb40 hgb40 => ⟨⟨by simp, by simp⟩, ?_⟩))
    refine .one 6 (by decide) rfl (o_callR (rest := _) (slices_Insert_str (i := 0) (ess := strs ps) (x := [str kind]) (by omega) (by rw [strs_len]; omega) strs_cells (by simp [str, Value.oneCell'])) F.cal45 rfl rfl rfl (List.Perm.swap _ _ _) (by simp) (fun v41 rs41 cs41 hv41 => ⟨(by obtain ⟨rfl, rfl⟩ := hv41; exact ⟨by simp, by simp⟩), ?_⟩))
    obtain ⟨rfl, rfl⟩ := hv41
    refine .one 7 (by decide) rfl (o_callBV (v := .tuple #[str (downB kb (kind :: ps)), .int .i64 0]) (fun w hst => by obtain ⟨φ9, h1, h2⟩ := hst.borrow (i := 0) rfl; exact ⟨[φ, φ9], by simp [h1, hst.sub φ (by simp)], mac_Derive (key := kb) (l := kind :: ps) (n := 32) hsh h2 (by omega) hi (by omega)⟩) F.cal93 rfl rfl rfl ⟨(by first | exact Incl.refl _ _ | exact ⟨by simp, by simp⟩), ?_⟩)
    refine .takeP 8 rfl (by decide) (y_move rfl) ?_
    refine .takeP 9 rfl (by decide) (y_extract rfl rfl) ?_
    refine .takeP 10 rfl (by decide) (y_extract rfl rfl) ?_
    refine .takeP 11 rfl (by decide) (y_assign rfl) ?_
    refine .takeP 12 rfl (by decide) (y_assign rfl) ?_
    refine .done (by decide) ?_
    refine W.seq ?_
    refine W.seq ?_
    refine W.region ?_
    refine .op (.y (y_move rfl) ?_)
    refine .op (.y (y_neqN (i := 0) (j := 0) rfl rfl) ?_)
    refine .nil ?_
    refine W.condF (rfl) ?_
    refine W.skip ?_
    refine W.seq ?_
    refine W.region ?_
    refine .op (.y (y_move rfl) ?_)
    refine .op (.y (y_field rfl F.fld28_1) ?_)
    refine .op (.y (y_load 3 rfl rfl rfl F.sc26) ?_)
    refine .op (.y (y_move rfl) ?_)
    refine .op (o_buildD1 [pv, v] [[pv], [v]] Tryd.underlying179 F.ze26 rfl rfl rfl rfl (by obtain ⟨A, c, rfl, _⟩ := hpv.form; obtain ⟨A2, c2, rfl, _⟩ := hv.form; rfl) rfl (by omega) (fun gb53 hgb53 => ?_))
    refine .op (o_callB (post := fun u rs => rs = [.row u 9 1 (strs (kp ++ ps))]) (fun w hst => by obtain ⟨φ9, h1, h2⟩ := hst.borrow (i := 0) rfl; exact ⟨φ9 :: [φp, φ2], by simp [h1, hst.sub φp (by simp), hst.sub φ2 (by simp)], (slices_Concat_str (Fv := [φp, φ2]) (vs := [pv, v]) (ls := [kp, ps]) h2 rfl (fun i hi => by match i, hi with | 0, _ => exact ⟨φp, by simp, hpv⟩ | 1, _ => exact ⟨φ2, by simp, hv⟩) (by simp; omega)).mono fun e rs' cs' ⟨v', he, h3, h4⟩ => ⟨v', he, h4, by simpa using h3⟩⟩) F.cal94 rfl rfl rfl (fun v54 rs54 hv54 => ?_))
    subst hv54
    refine WL.rowShape 0 rfl fun A54 c54 hw54 hc54 => ?_
    subst hw54
    refine .op (.y (y_move rfl) ?_)
    refine .op (.y (y_build (cs := #[str kind, .slice A54 (strs (kp ++ ps)).length c54, str (downB kb (kind :: ps))]) F.ze28 F.pl28 rfl rfl) ?_)
    refine .op (o_storeN (vs := [str kind, .slice A54 (strs (kp ++ ps)).length c54, str (downB kb (kind :: ps))]) 4 rfl rfl rfl rfl (Nat.le_refl 3) (by intro v hv; simp only [List.mem_cons, List.not_mem_nil, or_false] at hv; rcases hv with h | h | h <;> subst h <;> rfl) F.sz28 ?_)
    refine .op (.y (y_assign rfl) ?_)
    refine .nil ?_
    refine W.ret ?_
    exact retCT 4 rfl rfl rfl F.agg28 rfl [.row (.slice A54 (strs (kp ++ ps)).length c54) 9 1 (strs (kp ++ ps))] [] ⟨_, rfl, _, rfl, rfl, rfl, rfl⟩ (by simp) (by simp)
  ·
    refine .one 3 (by decide) rfl (o_call (slices_Clone_str hv (by omega)) F.cal46 rfl rfl rfl (by simp) (fun v38 rs38 cs38 hv38 => ⟨(by obtain ⟨rfl, rfl⟩ := hv38; exact ⟨by simp, by simp⟩), ?_⟩))
    obtain ⟨rfl, rfl⟩ := hv38
    refine .one 6 (by decide) rfl (o_callR (rest := _) (slices_Insert_str (i := 0) (ess := strs ps) (x := [str kind]) (by omega) (by rw [strs_len]; omega) strs_cells (by simp [str, Value.oneCell'])) F.cal45 rfl rfl rfl (List.Perm.refl _) (by simp) (fun v41 rs41 cs41 hv41 => ⟨(by obtain ⟨rfl, rfl⟩ := hv41; exact ⟨by simp, by simp⟩), ?_⟩))
    obtain ⟨rfl, rfl⟩ := hv41
    refine .one 7 (by decide) rfl (o_callBV (v := .tuple #[str (downB kb (kind :: ps)), .int .i64 0]) (fun w hst => by obtain ⟨φ9, h1, h2⟩ := hst.borrow (i := 0) rfl; exact ⟨[φ, φ9], by simp [h1, hst.sub φ (by simp)], mac_Derive (key := kb) (l := kind :: ps) (n := 32) hsh h2 (by omega) hi (by omega)⟩) F.cal93 rfl rfl rfl ⟨(by first | exact Incl.refl _ _ | exact ⟨by simp, by simp⟩), ?_⟩)
    refine .takeP 8 rfl (by decide) (y_move rfl) ?_
    refine .takeP 9 rfl (by decide) (y_extract rfl rfl) ?_
    refine .takeP 10 rfl (by decide) (y_extract rfl rfl) ?_
    refine .takeP 11 rfl (by decide) (y_assign rfl) ?_
    refine .takeP 12 rfl (by decide) (y_assign rfl) ?_
    refine .done (by decide) ?_
    refine W.seq ?_
    refine W.seq ?_
    refine W.region ?_
    refine .op (.y (y_move rfl) ?_)
    refine .op (.y (y_neqN (i := 0) (j := 0) rfl rfl) ?_)
    refine .nil ?_
    refine W.condF (rfl) ?_
    refine W.skip ?_
    refine W.seq ?_
    refine W.region ?_
    refine .op (.y (y_move rfl) ?_)
    refine .op (.y (y_field rfl F.fld28_1) ?_)
    refine .op (.y (y_load 3 rfl rfl rfl F.sc26) ?_)
    refine .op (.y (y_move rfl) ?_)
    refine .op (o_buildD1 [pv, v] [[pv], [v]] Tryd.underlying179 F.ze26 rfl rfl rfl rfl (by obtain ⟨A, c, rfl, _⟩ := hpv.form; obtain ⟨A2, c2, rfl, _⟩ := hv.form; rfl) rfl (by omega) (fun gb53 hgb53 => ?_))
    refine .op (o_callB (post := fun u rs => rs = [.row u 9 1 (strs (kp ++ ps))]) (fun w hst => by obtain ⟨φ9, h1, h2⟩ := hst.borrow (i := 0) rfl; exact ⟨φ9 :: [φp, φ2], by simp [h1, hst.sub φp (by simp), hst.sub φ2 (by simp)], (slices_Concat_str (Fv := [φp, φ2]) (vs := [pv, v]) (ls := [kp, ps]) h2 rfl (fun i hi => by match i, hi with | 0, _ => exact ⟨φp, by simp, hpv⟩ | 1, _ => exact ⟨φ2, by simp, hv⟩) (by simp; omega)).mono fun e rs' cs' ⟨v', he, h3, h4⟩ => ⟨v', he, h4, by simpa using h3⟩⟩) F.cal94 rfl rfl rfl (fun v54 rs54 hv54 => ?_))
    subst hv54
    refine WL.rowShape 0 rfl fun A54 c54 hw54 hc54 => ?_
    subst hw54
    refine .op (.y (y_move rfl) ?_)
    refine .op (.y (y_build (cs := #[str kind, .slice A54 (strs (kp ++ ps)).length c54, str (downB kb (kind :: ps))]) F.ze28 F.pl28 rfl rfl) ?_)
    refine .op (o_storeN (vs := [str kind, .slice A54 (strs (kp ++ ps)).length c54, str (downB kb (kind :: ps))]) 4 rfl rfl rfl rfl (Nat.le_refl 3) (by intro v hv; simp only [List.mem_cons, List.not_mem_nil, or_false] at hv; rcases hv with h | h | h <;> subst h <;> rfl) F.sz28 ?_)
    refine .op (.y (y_assign rfl) ?_)
    refine .nil ?_
    refine W.ret ?_
    exact retCT 4 rfl rfl rfl F.agg28 rfl [.row (.slice A54 (strs (kp ++ ps)).length c54) 9 1 (strs (kp ++ ps))] [] ⟨_, rfl, _, rfl, rfl, rfl, rfl⟩ (by simp) (by simp)
theorem keys_Down_no {φ φ2 : Frag} {kk kb kind : List UInt8} {pv v : Value} {ps : List (List UInt8)} {p q : List UInt8 × Int} (hlook : look φ kk p q) (hpv : pv.oneCell' = true) (hv : Sl φ2 v 1 (strs ps)) (hps : 0 < ps.length) (hmem : (kind, (ps.length : Int)) ∉ [p, q]) : Spec Tryd.prog 69 #[keyV kk pv kb, str kind, v] [] [φ, φ2] (Val (.tuple #[keyV [] (.slice none 0 0) [], .int .i64 1])) := by
  refine Spec.body (args := [keyV kk pv kb, str kind, v]) (n := 57) Tryd.func69 rfl Tryd.ntmps69 (by simp) fun w0 hw0 => ?_
  obtain ⟨mb, hmay, hfind⟩ := hlook
  refine W.seq ?_
  refine W.region ?_
  refine .op (o_boxA (cs := [str kk, pv, str kb]) rfl (fun b3 hb3 => ?_))
  refine .op (o_allocC [(str []), (.slice none 0 0), (str [])] F.ze28 rfl (fun b6 hb6 => ?_))
  refine .op (.y (y_assign rfl) ?_)
  refine .nil ?_
  refine W.seq ?_
  refine W.region ?_
  refine .op (.y (y_loadP rfl hmay rfl (by simp) F.sc154) ?_)
  refine .op (.y (y_field rfl F.fld28_0) ?_)
  refine .op (.y (y_load 1 rfl rfl rfl F.sc9) ?_)
  refine .op (.y (y_lookupR rfl rfl (by simp) hfind) ?_)
  refine .op (o_allocC [(str []), (.int .i64 0), (str []), (.int .i64 0)] F.ze153 rfl (fun b8 hb8 => ?_))
  refine .op (o_storeN (vs := belC p q) 0 rfl rfl rfl rfl (Nat.le_refl 4) (by intro v hv; simp only [belC, List.mem_cons, List.not_mem_nil, or_false] at hv; rcases hv with h | h | h | h <;> subst h <;> rfl) F.sz153 ?_)
  refine .nil ?_
  refine W.seq ?_
  refine W.seq ?_
  refine W.region ?_
  refine .op (.y (y_move rfl) ?_)
  refine .op (.y (y_lenS rfl hv Tryd.underlying26) ?_)
  rw [strs_len]
  refine .op (.y (y_eqlN (j := 0) rfl rfl) ?_)
  rw [show decide (ps.length = 0) = false from decide_eq_false (by omega)]
  refine .op (.y (y_move rfl) ?_)
  refine .op (.y (y_sliceA (i := 0) (j := 2) rfl Tryd.underlying153 F.sz152 rfl rfl (by omega) (by omega)) ?_)
  refine .op (.y (y_move rfl) ?_)
  refine .op (.y (y_move rfl) ?_)
  refine .op (.y (y_lenS rfl hv Tryd.underlying26) ?_)
  rw [strs_len]
  refine .op (.y (y_build (cs := #[str kind, .int .i64 (ps.length : Int)]) F.ze152 F.pl152 rfl rfl) ?_)
  refine .op (o_callBV (v := .bool (decide ((kind, (ps.length : Int)) ∈ [p, q]))) (fun w hst => by obtain ⟨φ9, h1, h2⟩ := hst.borrowC (i := 0) (cap := 2) (sz := 2) (bels [p, q]) rfl (by simp [bels]) (by simp [bels]) (by simp [bels]) rfl; exact ⟨[φ9], by simpa using h1, slices_Contains_below (p := (kind, (ps.length : Int))) h2⟩) F.cal92 rfl rfl rfl ?_)
  rw [decide_eq_false hmem]
  refine .op (.y (y_not rfl) ?_)
  refine .op (.y (y_pick rfl rfl) ?_)
  refine .op (.y (y_move rfl) ?_)
  refine .off rfl rfl rfl ?_
  refine .off rfl rfl rfl ?_
  refine .off rfl rfl rfl ?_
  refine .off rfl rfl rfl ?_
  refine .op (.y (y_pick rfl rfl) ?_)
  refine .nil ?_
  refine W.condT (rfl) ?_
  refine W.seq ?_
  refine W.region ?_
  refine .op (.y (y_build (cs := #[str [], .slice none 0 0, str []]) F.ze28 F.pl28 rfl rfl) ?_)
  refine .op (o_storeN (vs := [str [], .slice none 0 0, str []]) 1 rfl rfl rfl rfl (Nat.le_refl 3) (by intro v hv; simp only [List.mem_cons, List.not_mem_nil, or_false] at hv; rcases hv with h | h | h <;> subst h <;> rfl) F.sz28 ?_)
  refine .op (.y (y_assign rfl) ?_)
  refine .nil ?_
  refine W.ret ?_
  exact retCT 1 rfl rfl rfl F.agg28 rfl [] [] ⟨rfl, rfl, rfl⟩ (by simp) (by simp)
/-! ### Ways down -/
/-- A key comes back, and a number. -/
def KP (R : List UInt8 → Value → List UInt8 → Int → List Res → Prop) : Ending → List Res → List Frag → Prop := RetP fun u rs cs => ∃ a b c e, u = .tuple #[keyV a b c, .int .i64 e] ∧ b.oneCell' = true ∧ R a b c e rs ∧ cs = []
theorem key_one {a c : List UInt8} {b : Value} (hb : b.oneCell' = true) : ∀ v ∈ [str a, b, str c], v.oneCell' = true := by
  intro v hv
  simp only [List.mem_cons, List.not_mem_nil, or_false] at hv
  rcases hv with h | h | h <;> subst h
  · rfl
  · exact hb
  · rfl
theorem one_cells {b : Value} (hb : b.oneCell' = true) : b.cells = #[b] := by
  cases b <;> first | rfl | (simp [Value.oneCell'] at hb)
theorem keys_down {Fs : List Frag} {k v : Value} {kind : List UInt8} {R : List UInt8 → Value → List UInt8 → Int → List Res → Prop} (hs : Spec Tryd.prog 69 #[k, str kind, v] [] Fs (KP R)) : Spec Tryd.prog 68 #[.func (.func 69) #[k] #[], str kind, v] [] Fs (KP R) := by
  refine Spec.body (args := [.func (.func 69) #[k] #[], str kind, v]) (n := 14) Tryd.func68 rfl Tryd.ntmps68 (by simp) fun w0 hw0 => ?_
  refine W.seq ?_
  refine W.region ?_
  refine .op (o_allocC [(str []), (.slice none 0 0), (str [])] F.ze28 rfl (fun b6 hb6 => ?_))
  refine .op (.y (y_assign rfl) ?_)
  refine .nil ?_
  refine W.seq ?_
  refine W.region ?_
  refine .op (.y (y_move rfl) ?_)
  refine .op (.y (y_move rfl) ?_)
  refine .op (.y (y_move rfl) ?_)
  refine .op (o_callF (rs := []) (rest := _) hs F.cal69 rfl rfl rfl (List.Perm.refl _) (by simp) (fun v11 rs11 cs11 hv11 => ?_))
  obtain ⟨a, b, c, e, rfl, hb, hR, rfl⟩ := hv11
  refine .op (.y (y_extract rfl rfl) ?_)
  refine .op (.y (y_extract rfl rfl) ?_)
  refine .op (o_storeN (vs := [str a, b, str c]) 0 rfl rfl rfl rfl (Nat.le_refl 3) (key_one hb) F.sz28 ?_)
  refine .op (.y (y_assign rfl) ?_)
  refine .nil ?_
  refine W.ret ?_
  exact retCT 0 rfl rfl rfl F.agg28 rfl rs11 [] ⟨_, rfl, a, b, c, e, rfl, hb, hR, rfl⟩ (List.sublist_cons_self _ _) (by simp)
end Go.Proofs.Sep
