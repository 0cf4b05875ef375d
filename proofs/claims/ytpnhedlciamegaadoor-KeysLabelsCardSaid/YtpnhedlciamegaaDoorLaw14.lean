/- The statements of keys: their calls. -/
import Derived.Test.YtpnhedlciamegaaDoorKeys2
import Derived.Test.YtpnhedlciamegaaDoorSepP
set_option linter.all false
set_option linter.unusedSimpArgs false
set_option linter.unnecessarySimpa false
set_option linter.deprecated false
set_option maxRecDepth 100000
set_option linter.unusedVariables false
namespace Go.Proofs.Sep
open Go Go.RowKit

theorem keys_Same {φ φ2 : Frag} {ka ba kb bb : List UInt8} {pa pb : Value} {la lb : List (List UInt8)} (ha : Sl φ pa 1 (strs la)) (hb : Sl φ2 pb 1 (strs lb)) : Spec Tryd.prog 37 #[keyV ka pa ba, keyV kb pb bb] [] [φ, φ2] (Val (.bool (decide (ka = kb ∧ ba = bb ∧ la = lb)))) := by
  refine Spec.body (args := [keyV ka pa ba, keyV kb pb bb]) (n := 24) Tryd.func37 rfl Tryd.ntmps37 (by simp) fun w0 hw0 => ?_
  have h1a : pa.oneCell' = true := (by obtain ⟨A, c, rfl, _⟩ := ha.form; rfl)
  have h1b : pb.oneCell' = true := (by obtain ⟨A, c, rfl, _⟩ := hb.form; rfl)
  refine W.seq ?_
  refine W.region ?_
  refine .op (o_boxC (cs := [str ka, pa, str ba]) rfl rfl (fun b2 hb2 => ?_))
  refine .op (o_boxC (cs := [str kb, pb, str bb]) rfl rfl (fun b3 hb3 => ?_))
  refine .op (.y (y_assign rfl) ?_)
  refine .nil ?_
  refine W.seq ?_
  refine W.region ?_
  refine .op (.y (y_field rfl F.fld28_0) ?_)
  refine .op (.y (y_load 1 rfl rfl rfl F.sc9) ?_)
  refine .op (.y (y_field rfl F.fld28_0) ?_)
  refine .op (.y (y_load 0 rfl rfl rfl F.sc9) ?_)
  refine .op (.y (y_seql rfl rfl) ?_)
  refine .op (.y (y_move rfl) ?_)
  refine .caseB 10 rfl (fun hs10 => ?_) (fun hs10 => ?_)
  ·
    rw [decide_eq_true_eq] at hs10
    refine .op (.y (y_field rfl F.fld28_2) ?_)
    refine .op (.y (y_load 1 rfl rfl rfl F.sc9) ?_)
    refine .op (.y (y_field rfl F.fld28_2) ?_)
    refine .op (.y (y_load 0 rfl rfl rfl F.sc9) ?_)
    refine .op (.y (y_seql rfl rfl) ?_)
    refine .op (.y (y_pick rfl rfl) ?_)
    refine .op (.y (y_move rfl) ?_)
    refine .caseB 17 rfl (fun hs17 => ?_) (fun hs17 => ?_)
    ·
      rw [decide_eq_true_eq] at hs17
      refine .op (.y (y_field rfl F.fld28_1) ?_)
      refine .op (.y (y_load 1 rfl rfl rfl F.sc26) ?_)
      refine .op (.y (y_field rfl F.fld28_1) ?_)
      refine .op (.y (y_load 0 rfl rfl rfl F.sc26) ?_)
      refine .op (o_callV (slices_Equal_str ha hb) F.cal70 rfl rfl rfl (by simp) ?_)
      refine .op (.y (y_pick rfl rfl) ?_)
      refine .op (.y (y_assign rfl) ?_)
      refine .nil ?_
      refine W.ret ?_
      exact ret1 rfl rfl [] [] ⟨by congr 2; rw [decide_eq_decide]; exact ⟨fun h => ⟨hs10, hs17, h⟩, fun h => h.2.2⟩, rfl, rfl⟩ (by simp) (by simp)
    ·
      rw [decide_eq_false_iff_not] at hs17
      refine .off rfl rfl rfl ?_
      refine .off rfl rfl rfl ?_
      refine .off rfl rfl rfl ?_
      refine .off rfl rfl rfl ?_
      refine .off rfl rfl rfl ?_
      refine .op (.y (y_pick rfl rfl) ?_)
      refine .op (.y (y_assign rfl) ?_)
      refine .nil ?_
      refine W.ret ?_
      exact ret1 rfl rfl [] [] ⟨by rw [decide_eq_false (fun h => hs17 h.2.1)], rfl, rfl⟩ (by simp) (by simp)
  ·
    rw [decide_eq_false_iff_not] at hs10
    refine .off rfl rfl rfl ?_
    refine .off rfl rfl rfl ?_
    refine .off rfl rfl rfl ?_
    refine .off rfl rfl rfl ?_
    refine .off rfl rfl rfl ?_
    refine .op (.y (y_pick rfl rfl) ?_)
    refine .op (.y (y_move rfl) ?_)
    refine .off rfl rfl rfl ?_
    refine .off rfl rfl rfl ?_
    refine .off rfl rfl rfl ?_
    refine .off rfl rfl rfl ?_
    refine .off rfl rfl rfl ?_
    refine .op (.y (y_pick rfl rfl) ?_)
    refine .op (.y (y_assign rfl) ?_)
    refine .nil ?_
    refine W.ret ?_
    exact ret1 rfl rfl [] [] ⟨by rw [decide_eq_false (fun h => hs10 h.1)], rfl, rfl⟩ (by simp) (by simp)
theorem keys_Label {φ : Frag} {kind kb : List UInt8} {pv : Value} {l : List (List UInt8)} (hv : Sl φ pv 1 (strs l)) (hl : l.length ≤ 1000000) (hj : (joinB (kind :: l)).length ≤ 10000000000000) : Spec Tryd.prog 13 #[keyV kind pv kb] [] [φ] (Val (str (joinB (kind :: l)))) := by
  refine Spec.body (args := [keyV kind pv kb]) (n := 11) Tryd.func13 rfl Tryd.ntmps13 (by simp) fun w0 hw0 => ?_
  have h1a : pv.oneCell' = true := (by obtain ⟨A, c, rfl, _⟩ := hv.form; rfl)
  refine W.seq ?_
  refine W.region ?_
  refine .op (o_boxC (cs := [str kind, pv, str kb]) rfl rfl (fun b1 hb1 => ?_))
  refine .op (.y (y_assign rfl) ?_)
  refine .nil ?_
  refine W.seq ?_
  refine W.draw F.mixed (true, [([], []), ([0], [0]), ([1], [1]), ([], []), ([3], [3]), ([4], [4]), ([2, 5, 2], [2, 5]), ([6, 6], [6]), ([7, 7, 0, 1, 2, 3, 4, 5, 6, 7], [7])]) [] (by kernel_rfl) _ _ (Incl.refl _ _) ?_
  refine .takeP 0 rfl (by decide) (y_field rfl F.fld28_1) ?_
  refine .take 1 rfl (by decide) (y_load 0 rfl rfl rfl F.sc26) ?_
  refine .takeP 3 rfl (by decide) (y_field rfl F.fld28_0) ?_
  refine .take 4 rfl (by decide) (y_load 0 rfl rfl rfl F.sc9) ?_
  refine .two 2 5 (by decide) rfl rfl rfl rfl (o_call (slices_Clone_str hv (by omega)) F.cal46 rfl rfl rfl (by simp) (fun v38 rs38 cs38 hv38 => ⟨(by obtain ⟨rfl, rfl⟩ := hv38; exact ⟨by simp, by simp⟩), ?_⟩)) (o_buildD1 [str kind] [[str kind]] Tryd.underlying26 F.ze9 rfl rfl rfl rfl rfl rfl (by omega) (fun gb40 hgb40 => ⟨⟨by simp, by simp⟩, ?_⟩))
  ·
    obtain ⟨rfl, rfl⟩ := hv38
    refine .one 5 (by decide) rfl (o_buildD1 [str kind] [[str kind]] Tryd.underlying26 F.ze9 rfl rfl rfl rfl rfl rfl (by omega) (fun gb40 hgb40 => ⟨⟨by simp, by simp⟩, ?_⟩))
    refine .one 6 (by decide) rfl (o_callR (rest := _) (slices_Insert_str (i := 0) (ess := strs l) (x := [str kind]) (by omega) (by rw [strs_len]; omega) strs_cells (by simp [str, Value.oneCell'])) F.cal45 rfl rfl rfl (List.Perm.swap _ _ _) (by simp) (fun v41 rs41 cs41 hv41 => ⟨(by obtain ⟨rfl, rfl⟩ := hv41; exact ⟨by simp, by simp⟩), ?_⟩))
    obtain ⟨rfl, rfl⟩ := hv41
    refine .one 7 (by decide) rfl (o_callBV (v := str (joinB (kind :: l))) (fun w hst => by obtain ⟨φ9, h1, h2⟩ := hst.borrow (i := 0) rfl; exact ⟨[φ9], by simp [h1], code_Join (l := kind :: l) h2 hj⟩) F.cal38 rfl rfl rfl ⟨(by first | exact Incl.refl _ _ | exact ⟨by simp, by simp⟩), ?_⟩)
    refine .takeP 8 rfl (by decide) (y_assign rfl) ?_
    refine .done (by decide) ?_
    refine W.ret ?_
    exact ret1 rfl rfl [] [] ⟨rfl, rfl, rfl⟩ (by simp) (by simp)
  ·
    refine .one 2 (by decide) rfl (o_call (slices_Clone_str hv (by omega)) F.cal46 rfl rfl rfl (by simp) (fun v38 rs38 cs38 hv38 => ⟨(by obtain ⟨rfl, rfl⟩ := hv38; exact ⟨by simp, by simp⟩), ?_⟩))
    obtain ⟨rfl, rfl⟩ := hv38
    refine .one 6 (by decide) rfl (o_callR (rest := _) (slices_Insert_str (i := 0) (ess := strs l) (x := [str kind]) (by omega) (by rw [strs_len]; omega) strs_cells (by simp [str, Value.oneCell'])) F.cal45 rfl rfl rfl (List.Perm.refl _) (by simp) (fun v41 rs41 cs41 hv41 => ⟨(by obtain ⟨rfl, rfl⟩ := hv41; exact ⟨by simp, by simp⟩), ?_⟩))
    obtain ⟨rfl, rfl⟩ := hv41
    refine .one 7 (by decide) rfl (o_callBV (v := str (joinB (kind :: l))) (fun w hst => by obtain ⟨φ9, h1, h2⟩ := hst.borrow (i := 0) rfl; exact ⟨[φ9], by simp [h1], code_Join (l := kind :: l) h2 hj⟩) F.cal38 rfl rfl rfl ⟨(by first | exact Incl.refl _ _ | exact ⟨by simp, by simp⟩), ?_⟩)
    refine .takeP 8 rfl (by decide) (y_assign rfl) ?_
    refine .done (by decide) ?_
    refine W.ret ?_
    exact ret1 rfl rfl [] [] ⟨rfl, rfl, rfl⟩ (by simp) (by simp)
/-! ### works -/
def nmRoot : List UInt8 := [114, 111, 111, 116]
def nmEpoch : List UInt8 := [101, 112, 111, 99, 104]
def nmColl : List UInt8 := [99, 111, 108, 108]
def nmBlob : List UInt8 := [98, 108, 111, 98]
def nmWord : List UInt8 := [119, 111, 114, 100]
/-- What keys' variables hold. -/
structure KeysG (φ : Frag) : Prop where
  sha : ShaG φ
  root : look φ nmRoot (nmEpoch, 1) ([], 0)
  epoch : look φ nmEpoch (nmColl, 1) ([], 0)
  coll : look φ nmColl (nmBlob, 1) (nmWord, 2)
def Rok (kind bytes : List UInt8) (l : List (List UInt8)) : List UInt8 → Value → List UInt8 → Int → List Res → Prop := fun a b c e rs => a = kind ∧ c = bytes ∧ e = 0 ∧ rs = [.row b 9 1 (strs l)]
def Rno : List UInt8 → Value → List UInt8 → Int → List Res → Prop := fun a b c e rs => a = [] ∧ b = .slice none 0 0 ∧ c = [] ∧ e = 1 ∧ rs = []
theorem down_ok {φ φp φ2 : Frag} {kk kb kind : List UInt8} {pv v : Value} {kp ps : List (List UInt8)} {p q : List UInt8 × Int} (hG : KeysG φ) (hlook : look φ kk p q) (hpv : Sl φp pv 1 (strs kp)) (hv : Sl φ2 v 1 (strs ps)) (hps : 0 < ps.length) (hmem : (kind, (ps.length : Int)) ∈ [p, q]) (hkb : kb.length = 32) (hb : ps.length + kp.length ≤ 1000000) (hi : (infoK (kind :: ps)).length ≤ 100000000000) :
    Spec Tryd.prog 69 #[keyV kk pv kb, str kind, v] [] [φ, φp, φ2] (KP (Rok kind (downB kb (kind :: ps)) (kp ++ ps))) :=
  (keys_Down hG.sha hlook hpv hv hps hmem hkb hb hi).mono fun e rs cs ⟨u, he, w, hw, hu, hr, hc⟩ => ⟨u, he, kind, w, _, 0, hu, hw, ⟨rfl, rfl, rfl, hr⟩, hc⟩
theorem down_no {φ φ2 : Frag} {kk kb kind : List UInt8} {pv v : Value} {ps : List (List UInt8)} {p q : List UInt8 × Int} (hlook : look φ kk p q) (hpv : pv.oneCell' = true) (hv : Sl φ2 v 1 (strs ps)) (hps : 0 < ps.length) (hmem : (kind, (ps.length : Int)) ∉ [p, q]) :
    Spec Tryd.prog 69 #[keyV kk pv kb, str kind, v] [] [φ, φ2] (KP Rno) :=
  (keys_Down_no hlook hpv hv hps hmem).mono fun e rs cs ⟨he, hr, hc⟩ => ⟨_, he, [], _, [], 1, rfl, rfl, ⟨rfl, rfl, rfl, rfl, hr⟩, hc⟩
theorem Sl_nil (φ : Frag) (sz : Nat) : Sl φ (.slice none 0 0) sz [] := ⟨by simp, by simp, none, 0, rfl, by simp, fun h => by simp at h⟩
theorem infoK_len (l : List (List UInt8)) : (infoK l).length = l.flatten.length + 4 * l.length := by
  induction l with
  | nil => rfl
  | cons s l ih =>
    have e : infoK (s :: l) = infoE s ++ infoK l := by simp [infoK]
    rw [e, List.length_append, ih, infoE_len, List.flatten_cons, List.length_append, List.length_cons]
    omega
theorem law14_works {φ : Frag} (hG : KeysG φ) : Spec Tryd.prog 8 #[] [] [φ] (Val (.bool true)) := by
  refine Spec.body (args := []) (n := 97) Tryd.func8 rfl Tryd.ntmps8 (by simp) fun w0 hw0 => ?_
  refine W.seq ?_
  refine W.region ?_
  refine .op (.y (y_assign rfl) ?_)
  refine .nil ?_
  refine W.seq ?_
  refine W.region ?_
  refine .op (o_callV (keys_Root (seed := [115, 101, 101, 100]) hG.sha (by simp)) F.cal32 rfl rfl rfl (by simp) ?_)
  generalize hrb : hmac [99, 114, 121, 112, 116, 101, 120] [[115, 101, 101, 100]] = rb
  have hrl : rb.length = 32 := (by rw [← hrb]; exact hmac_len _ _)
  refine .op (o_allocC [(str []), (.slice none 0 0), (str [])] F.ze28 rfl (fun b1 hb1 => ?_))
  refine .op (o_storeN (vs := [str nmRoot, .slice none 0 0, str rb]) 0 rfl rfl rfl rfl (Nat.le_refl 3) (key_one rfl) F.sz28 ?_)
  refine .nil ?_
  refine W.seq ?_
  refine W.region ?_
  refine .op (.y (y_loadA 0 rfl rfl (by simp) F.agg28) ?_)
  refine .op (o_callR (rs := []) (rest := _) (keys_Epoch (Fs := [φ]) (kk := nmRoot) (kb := rb) (n := 3) (R := Rok nmEpoch (downB rb (nmEpoch :: [bigL (IntKind.u64.wrap ((3 : Nat) : Int)) 8])) ([] ++ [bigL (IntKind.u64.wrap ((3 : Nat) : Int)) 8])) rfl (fun φ2 v hv => (down_ok hG hG.root (Sl_nil φ 1) hv (by simp) (by simp [nmEpoch]) hrl (by simp) (by rw [infoK_len]; simp [nmEpoch, bigL_len])).more (by simp))) F.cal33 rfl rfl rfl (List.Perm.refl _) (by simp) (fun v rs cs hv => ?_))
  obtain ⟨a, pe, c, e, rfl, h1e, ⟨rfl, rfl, rfl, rfl⟩, rfl⟩ := hv
  refine WL.freezeRow 0 rfl fun φe hpe => ?_
  generalize heb : downB rb (nmEpoch :: [bigL (IntKind.u64.wrap ((3 : Nat) : Int)) 8]) = eb
  have hel : eb.length = 32 := (by rw [← heb]; exact downB_len _ _)
  refine .op (.y (y_move rfl) ?_)
  refine .op (.y (y_extract rfl rfl) ?_)
  refine .op (.y (y_extract rfl rfl) ?_)
  refine .op (o_allocC [(str []), (.slice none 0 0), (str [])] F.ze28 rfl (fun b2 hb2 => ?_))
  refine .op (o_storeN (vs := [str nmEpoch, pe, str eb]) 0 rfl rfl rfl rfl (Nat.le_refl 3) (key_one h1e) F.sz28 ?_)
  refine .op (.y (y_assign rfl) ?_)
  refine .nil ?_
  refine W.seq ?_
  refine W.region ?_
  refine .op (.y (y_loadA 0 rfl rfl (by simp) F.agg28) ?_)
  refine .op (o_callR (rs := []) (rest := _) (keys_Coll (Fs := [φ, φe]) (kk := nmEpoch) (kb := eb) (name := [99]) (R := Rok nmColl (downB eb (nmColl :: [[99]])) (([] ++ [bigL (IntKind.u64.wrap ((3 : Nat) : Int)) 8]) ++ [[99]])) h1e (fun φ2 v hv => (down_ok hG hG.epoch hpe hv (by simp) (by simp [nmEpoch, nmColl, nmBlob, nmWord]) hel (by simp) (by rw [infoK_len]; simp [nmEpoch, nmColl, nmBlob, nmWord, bigL_len])).more (by simp))) F.cal34 rfl rfl rfl (List.Perm.refl _) (by simp) (fun v rs cs hv => ?_))
  obtain ⟨a, pc, c, e, rfl, h1c, ⟨rfl, rfl, rfl, rfl⟩, rfl⟩ := hv
  refine WL.freezeRow 0 rfl fun φc hpc => ?_
  generalize hcb : downB eb (nmColl :: [[99]]) = cb
  have cbl : cb.length = 32 := (by rw [← hcb]; exact downB_len _ _)
  refine .op (.y (y_move rfl) ?_)
  refine .op (.y (y_extract rfl rfl) ?_)
  refine .op (.y (y_extract rfl rfl) ?_)
  refine .op (o_allocC [(str []), (.slice none 0 0), (str [])] F.ze28 rfl (fun b4 hb4 => ?_))
  refine .op (o_storeN (vs := [str nmColl, pc, str cb]) 0 rfl rfl rfl rfl (Nat.le_refl 3) (key_one h1c) F.sz28 ?_)
  refine .op (.y (y_assign rfl) ?_)
  refine .nil ?_
  refine W.seq ?_
  refine W.region ?_
  refine .op (.y (y_loadA 0 rfl rfl (by simp) F.agg28) ?_)
  refine .op (o_callR (rs := []) (rest := _) (keys_Blob (Fs := [φ, φc]) (kk := nmColl) (kb := cb) (name := [105, 100]) (R := Rok nmBlob (downB cb (nmBlob :: [[105, 100]])) (([] ++ [bigL (IntKind.u64.wrap ((3 : Nat) : Int)) 8] ++ [[99]]) ++ [[105, 100]])) h1c (fun φ2 v hv => (down_ok hG hG.coll hpc hv (by simp) (by simp [nmEpoch, nmColl, nmBlob, nmWord]) cbl (by simp) (by rw [infoK_len]; simp [nmEpoch, nmColl, nmBlob, nmWord, bigL_len])).more (by simp))) F.cal35 rfl rfl rfl (List.Perm.refl _) (by simp) (fun v rs cs hv => ?_))
  obtain ⟨a, pk, c, e, rfl, h1k, ⟨rfl, rfl, rfl, rfl⟩, rfl⟩ := hv
  refine WL.freezeRow 0 rfl fun φk hpk => ?_
  generalize hkb : downB cb (nmBlob :: [[105, 100]]) = kb
  have kbl : kb.length = 32 := (by rw [← hkb]; exact downB_len _ _)
  refine .op (.y (y_move rfl) ?_)
  refine .op (.y (y_extract rfl rfl) ?_)
  refine .op (.y (y_extract rfl rfl) ?_)
  refine .op (o_allocC [(str []), (.slice none 0 0), (str [])] F.ze28 rfl (fun b6 hb6 => ?_))
  refine .op (o_storeN (vs := [str nmBlob, pk, str kb]) 0 rfl rfl rfl rfl (Nat.le_refl 3) (key_one h1k) F.sz28 ?_)
  refine .op (.y (y_assign rfl) ?_)
  refine .nil ?_
  refine W.seq ?_
  refine W.region ?_
  refine .op (.y (y_loadA 1 rfl rfl (by simp) F.agg28) ?_)
  refine .op (o_callR (rs := []) (rest := _) (keys_Word (Fs := [φ, φc]) (kk := nmColl) (kb := cb) (path := [112]) (value := [118]) (R := Rok nmWord (downB cb (nmWord :: [[112], [118]])) (([] ++ [bigL (IntKind.u64.wrap ((3 : Nat) : Int)) 8] ++ [[99]]) ++ [[112], [118]])) h1c (fun φ2 v hv => (down_ok hG hG.coll hpc hv (by simp) (by simp [nmEpoch, nmColl, nmBlob, nmWord]) cbl (by simp) (by rw [infoK_len]; simp [nmEpoch, nmColl, nmBlob, nmWord, bigL_len])).more (by simp))) F.cal36 rfl rfl rfl (List.Perm.refl _) (by simp) (fun v rs cs hv => ?_))
  obtain ⟨a, pw, c, e, rfl, h1w, ⟨rfl, rfl, rfl, rfl⟩, rfl⟩ := hv
  refine WL.freezeRow 0 rfl fun φw hpw => ?_
  generalize hwb : downB cb (nmWord :: [[112], [118]]) = wb
  have wbl : wb.length = 32 := (by rw [← hwb]; exact downB_len _ _)
  refine .op (.y (y_move rfl) ?_)
  refine .op (.y (y_extract rfl rfl) ?_)
  refine .op (.y (y_extract rfl rfl) ?_)
  refine .op (o_allocC [(str []), (.slice none 0 0), (str [])] F.ze28 rfl (fun b8 hb8 => ?_))
  refine .op (o_storeN (vs := [str nmWord, pw, str wb]) 0 rfl rfl rfl rfl (Nat.le_refl 3) (key_one h1w) F.sz28 ?_)
  refine .op (.y (y_assign rfl) ?_)
  refine .nil ?_
  refine W.seq ?_
  refine W.region ?_
  refine .op (.y (y_loadA 4 rfl rfl (by simp) F.agg28) ?_)
  refine .op (o_callR (rs := []) (rest := _) (keys_Word (Fs := [φ]) (kk := nmRoot) (kb := rb) (path := [112]) (value := [118]) (R := Rno) rfl (fun φ2 v hv => (down_no hG.root rfl hv (by simp) (by simp [nmEpoch])).more (by simp))) F.cal36 rfl rfl rfl (List.Perm.refl _) (by simp) (fun v rs cs hv => ?_))
  obtain ⟨a, b, c, e, rfl, h1b, ⟨rfl, rfl, rfl, rfl, rfl⟩, rfl⟩ := hv
  refine .op (.y (y_move rfl) ?_)
  refine .op (.y (y_extract rfl rfl) ?_)
  refine .op (.y (y_extract rfl rfl) ?_)
  refine .op (o_allocC [(str []), (.slice none 0 0), (str [])] F.ze28 rfl (fun b10 hb10 => ?_))
  refine .op (o_storeN (vs := [str [], .slice none 0 0, str []]) 0 rfl rfl rfl rfl (Nat.le_refl 3) (key_one rfl) F.sz28 ?_)
  refine .op (.y (y_assign rfl) ?_)
  refine .nil ?_
  refine W.seq ?_
  refine W.draw F.mixed (true, [([], []), ([0], [0]), ([1], [1]), ([2], [2]), ([3, 2], [2, 3]), ([2, 4], [2, 4]), ([5, 2], [5]), ([6], [6]), ([7, 6], [6, 7]), ([6, 8], [6, 8]), ([9, 6], [9]), ([10], [10]), ([11, 10], [10, 11]), ([10, 12], [10, 12]), ([13, 10], [13]), ([14], [14]), ([15, 14], [14, 15]), ([14, 16], [14, 16]), ([17, 14], [17]), ([18], [18]), ([19, 18], [18, 19]), ([20, 18], [18, 20]), ([21, 18], [18, 21]), ([18, 22], [18, 22]), ([23, 18], [23]), ([24], [24]), ([25, 24], [24, 25]), ([26, 24], [24, 26]), ([27, 24], [24, 27]), ([24, 28], [24, 28]), ([29, 24], [29]), ([30], [30]), ([31, 30], [30, 31]), ([32, 30], [30, 32]), ([30, 33], [30, 33]), ([34, 30], [34]), ([35, 35], [35]), ([35], [35]), ([37, 35], [35, 37]), ([36, 38, 35], [35, 36, 38]), ([35, 39], [35, 39]), ([40, 36], [40]), ([41], [41]), ([41], [41]), ([42, 43, 41, 41], [41, 42, 43]), ([41, 44], [41, 44]), ([45, 44], [45]), ([46], [46]), ([46], [46]), ([47, 48, 46, 46], [46, 47, 48]), ([49, 46], [46, 49]), ([46, 50], [46, 50]), ([51, 49], [51]), ([52], [52]), ([53, 52, 52], [52, 53]), ([52], [52]), ([55, 54, 52], [52, 55]), ([54, 56, 52], [52, 54, 56]), ([52, 57], [52, 57]), ([58, 56, 0, 1, 2, 3, 4, 5, 6, 7, 8, 9, 10, 11, 12, 13, 14, 15, 16, 17, 18, 19, 20, 21, 22, 23, 24, 25, 26, 27, 28, 29, 30, 31, 32, 33, 34, 35, 36, 37, 38, 39, 40, 41, 42, 43, 44, 45, 46, 47, 48, 49, 50, 51, 52, 53, 54, 55, 56, 57, 58], [58])]) [] (by kernel_rfl) _ _ (Incl.refl _ _) ?_
  refine .takeP 0 rfl (by decide) (y_move rfl) ?_
  refine .takeP 1 rfl (by decide) (y_eqlN (j := 0) rfl rfl) ?_
  refine .takeP 2 rfl (by decide) (y_move rfl) ?_
  refine .takeP 3 rfl (by decide) (y_move rfl) ?_
  refine .takeP 4 rfl (by decide) (y_eqlN (j := 0) rfl rfl) ?_
  refine .takeP 5 rfl (by decide) (y_pick rfl rfl) ?_
  refine .takeP 6 rfl (by decide) (y_move rfl) ?_
  refine .takeP 7 rfl (by decide) (y_move rfl) ?_
  refine .takeP 8 rfl (by decide) (y_eqlN (j := 0) rfl rfl) ?_
  refine .takeP 9 rfl (by decide) (y_pick rfl rfl) ?_
  refine .takeP 10 rfl (by decide) (y_move rfl) ?_
  refine .takeP 11 rfl (by decide) (y_move rfl) ?_
  refine .takeP 12 rfl (by decide) (y_eqlN (j := 0) rfl rfl) ?_
  refine .takeP 13 rfl (by decide) (y_pick rfl rfl) ?_
  refine .takeP 14 rfl (by decide) (y_move rfl) ?_
  refine .takeP 15 rfl (by decide) (y_move rfl) ?_
  refine .takeP 16 rfl (by decide) (y_eqlN (j := 1) rfl rfl) ?_
  refine .takeP 17 rfl (by decide) (y_pick rfl rfl) ?_
  refine .takeP 18 rfl (by decide) (y_move rfl) ?_
  refine .takeP 19 rfl (by decide) (y_field rfl F.fld28_2) ?_
  refine .take 20 rfl (by decide) (y_load 1 rfl rfl rfl F.sc9) ?_
  refine .takeP 21 rfl (by decide) (y_slen rfl Tryd.underlying9) ?_
  refine .takeP 22 rfl (by decide) (y_eqlN (i := wb.length) (j := 32) rfl rfl) ?_
  rw [decide_eq_true wbl]
  refine .takeP 23 rfl (by decide) (y_pick rfl rfl) ?_
  refine .takeP 24 rfl (by decide) (y_move rfl) ?_
  refine .takeP 25 rfl (by decide) (y_field rfl F.fld28_1) ?_
  refine .take 26 rfl (by decide) (y_load 2 rfl rfl rfl F.sc26) ?_
  refine .takeP 27 rfl (by decide) (y_lenS rfl hpk Tryd.underlying26) ?_
  refine .takeP 28 rfl (by decide) (y_eqlN (j := 3) rfl rfl) ?_
  refine .takeP 29 rfl (by decide) (y_pick rfl rfl) ?_
  refine .takeP 30 rfl (by decide) (y_move rfl) ?_
  refine .takeP 31 rfl (by decide) (y_field rfl F.fld28_0) ?_
  refine .take 32 rfl (by decide) (y_load 1 rfl rfl rfl F.sc9) ?_
  refine .takeP 33 rfl (by decide) (y_seql rfl rfl) ?_
  refine .takeP 34 rfl (by decide) (y_pick rfl rfl) ?_
  refine .takeP 35 rfl (by decide) (y_move rfl) ?_
  refine .two 36 37 (by decide) rfl rfl rfl rfl (o_callV (keys_Nonce (n := 1) (by decide)) F.cal9 rfl rfl rfl (by simp) ⟨(by first | exact Incl.refl _ _ | exact ⟨by simp, by simp⟩), ?_⟩) (o_buildD1 ((bigL 0 4 ++ bigL 1 8).map byte) ((bigL 0 4 ++ bigL 1 8).map fun c => [byte c]) Tryd.underlying76 F.ze5 rfl rfl rfl rfl rfl rfl (by omega) (fun gb75 hgb75 => ⟨(by first | exact Incl.refl _ _ | exact ⟨by simp, by simp⟩), ?_⟩))
  ·
    refine .one 37 (by decide) rfl (o_buildD1 ((bigL 0 4 ++ bigL 1 8).map byte) ((bigL 0 4 ++ bigL 1 8).map fun c => [byte c]) Tryd.underlying76 F.ze5 rfl rfl rfl rfl rfl rfl (by omega) (fun gb75 hgb75 => ⟨(by first | exact Incl.refl _ _ | exact ⟨by simp, by simp⟩), ?_⟩))
    refine .one 38 (by decide) rfl (.y (y_bytesR 0 (l := bigL 0 4 ++ bigL 1 8) rfl rfl Tryd.underlying76 Tryd.underlying5 Tryd.underlying9) ⟨(by first | exact Incl.refl _ _ | exact ⟨by simp, by simp⟩), ?_⟩)
    refine .takeP 39 rfl (by decide) (y_seql rfl rfl) ?_
    refine .takeP 40 rfl (by decide) (y_pick rfl rfl) ?_
    refine .takeP 41 rfl (by decide) (y_move rfl) ?_
    refine .take 42 rfl (by decide) (y_loadA 1 rfl rfl (by simp) F.agg28) ?_
    refine .take 43 rfl (by decide) (y_loadA 1 rfl rfl (by simp) F.agg28) ?_
    refine .one 44 (by decide) rfl (o_callV (keys_Same (φ := φw) (φ2 := φw) hpw hpw) F.cal37 rfl rfl rfl (by simp) ⟨(by first | exact Incl.refl _ _ | exact ⟨by simp, by simp⟩), ?_⟩)
    rw [decide_eq_true (⟨rfl, rfl, rfl⟩ : _ ∧ _ ∧ _)]
    refine .takeP 45 rfl (by decide) (y_pick rfl rfl) ?_
    refine .takeP 46 rfl (by decide) (y_move rfl) ?_
    refine .take 47 rfl (by decide) (y_loadA 1 rfl rfl (by simp) F.agg28) ?_
    refine .take 48 rfl (by decide) (y_loadA 2 rfl rfl (by simp) F.agg28) ?_
    refine .one 49 (by decide) rfl (o_callV (keys_Same (φ := φw) (φ2 := φk) hpw hpk) F.cal37 rfl rfl rfl (by simp) ⟨(by first | exact Incl.refl _ _ | exact ⟨by simp, by simp⟩), ?_⟩)
    rw [decide_eq_false (fun h => absurd h.1 (by decide))]
    refine .takeP 50 rfl (by decide) (y_not rfl) ?_
    refine .takeP 51 rfl (by decide) (y_pick rfl rfl) ?_
    refine .takeP 52 rfl (by decide) (y_move rfl) ?_
    refine .take 53 rfl (by decide) (y_loadA 5 rfl rfl (by simp) F.agg28) ?_
    refine .two 54 55 (by decide) rfl rfl rfl rfl (o_callV (keys_Label (φ := φ) (kind := nmRoot) (l := []) (Sl_nil φ 1) (by simp) (by simp [joinB, joinE, textB, nmRoot, escB])) F.cal13 rfl rfl rfl (by simp) ⟨(by first | exact Incl.refl _ _ | exact ⟨by simp, by simp⟩), ?_⟩) (o_buildD1 _ _ Tryd.underlying26 F.ze9 rfl rfl rfl rfl rfl rfl (by omega) (fun gb93 hgb93 => ⟨(by first | exact Incl.refl _ _ | exact ⟨by simp, by simp⟩), ?_⟩))
    ·
      refine .one 55 (by decide) rfl (o_buildD1 _ _ Tryd.underlying26 F.ze9 rfl rfl rfl rfl rfl rfl (by omega) (fun gb93 hgb93 => ⟨(by first | exact Incl.refl _ _ | exact ⟨by simp, by simp⟩), ?_⟩))
      refine .one 56 (by decide) rfl (o_callBV (v := str (joinB [nmRoot])) (fun w hst => by obtain ⟨φ9, h1, h2⟩ := hst.borrow (i := 0) rfl; exact ⟨[φ9], by simp [h1], code_Join (l := [nmRoot]) h2 (by simp [joinB, joinE, textB, nmRoot, escB])⟩) F.cal38 rfl rfl rfl ⟨(by first | exact Incl.refl _ _ | exact ⟨by simp, by simp⟩), ?_⟩)
      refine .takeP 57 rfl (by decide) (y_seql rfl rfl) ?_
      refine .takeP 58 rfl (by decide) (y_pick rfl rfl) ?_
      refine .takeP 59 rfl (by decide) (y_assign rfl) ?_
      refine .done (by decide) ?_
      refine W.ret ?_
      exact ret1 rfl rfl [] [] ⟨rfl, rfl, rfl⟩ (by simp) (by simp)
    ·
      refine .one 54 (by decide) rfl (o_callV (keys_Label (φ := φ) (kind := nmRoot) (l := []) (Sl_nil φ 1) (by simp) (by simp [joinB, joinE, textB, nmRoot, escB])) F.cal13 rfl rfl rfl (by simp) ⟨(by first | exact Incl.refl _ _ | exact ⟨by simp, by simp⟩), ?_⟩)
      refine .one 56 (by decide) rfl (o_callBV (v := str (joinB [nmRoot])) (fun w hst => by obtain ⟨φ9, h1, h2⟩ := hst.borrow (i := 0) rfl; exact ⟨[φ9], by simp [h1], code_Join (l := [nmRoot]) h2 (by simp [joinB, joinE, textB, nmRoot, escB])⟩) F.cal38 rfl rfl rfl ⟨(by first | exact Incl.refl _ _ | exact ⟨by simp, by simp⟩), ?_⟩)
      refine .takeP 57 rfl (by decide) (y_seql rfl rfl) ?_
      refine .takeP 58 rfl (by decide) (y_pick rfl rfl) ?_
      refine .takeP 59 rfl (by decide) (y_assign rfl) ?_
      refine .done (by decide) ?_
      refine W.ret ?_
      exact ret1 rfl rfl [] [] ⟨rfl, rfl, rfl⟩ (by simp) (by simp)
  ·
    refine .two 36 38 (by decide) rfl rfl rfl rfl (o_callV (keys_Nonce (n := 1) (by decide)) F.cal9 rfl rfl rfl (by simp) ⟨(by first | exact Incl.refl _ _ | exact ⟨by simp, by simp⟩), ?_⟩) (.y (y_bytesR 0 (l := bigL 0 4 ++ bigL 1 8) rfl rfl Tryd.underlying76 Tryd.underlying5 Tryd.underlying9) ⟨(by first | exact Incl.refl _ _ | exact ⟨by simp, by simp⟩), ?_⟩)
    ·
      refine .one 38 (by decide) rfl (.y (y_bytesR 0 (l := bigL 0 4 ++ bigL 1 8) rfl rfl Tryd.underlying76 Tryd.underlying5 Tryd.underlying9) ⟨(by first | exact Incl.refl _ _ | exact ⟨by simp, by simp⟩), ?_⟩)
      refine .takeP 39 rfl (by decide) (y_seql rfl rfl) ?_
      refine .takeP 40 rfl (by decide) (y_pick rfl rfl) ?_
      refine .takeP 41 rfl (by decide) (y_move rfl) ?_
      refine .take 42 rfl (by decide) (y_loadA 1 rfl rfl (by simp) F.agg28) ?_
      refine .take 43 rfl (by decide) (y_loadA 1 rfl rfl (by simp) F.agg28) ?_
      refine .one 44 (by decide) rfl (o_callV (keys_Same (φ := φw) (φ2 := φw) hpw hpw) F.cal37 rfl rfl rfl (by simp) ⟨(by first | exact Incl.refl _ _ | exact ⟨by simp, by simp⟩), ?_⟩)
      rw [decide_eq_true (⟨rfl, rfl, rfl⟩ : _ ∧ _ ∧ _)]
      refine .takeP 45 rfl (by decide) (y_pick rfl rfl) ?_
      refine .takeP 46 rfl (by decide) (y_move rfl) ?_
      refine .take 47 rfl (by decide) (y_loadA 1 rfl rfl (by simp) F.agg28) ?_
      refine .take 48 rfl (by decide) (y_loadA 2 rfl rfl (by simp) F.agg28) ?_
      refine .one 49 (by decide) rfl (o_callV (keys_Same (φ := φw) (φ2 := φk) hpw hpk) F.cal37 rfl rfl rfl (by simp) ⟨(by first | exact Incl.refl _ _ | exact ⟨by simp, by simp⟩), ?_⟩)
      rw [decide_eq_false (fun h => absurd h.1 (by decide))]
      refine .takeP 50 rfl (by decide) (y_not rfl) ?_
      refine .takeP 51 rfl (by decide) (y_pick rfl rfl) ?_
      refine .takeP 52 rfl (by decide) (y_move rfl) ?_
      refine .take 53 rfl (by decide) (y_loadA 5 rfl rfl (by simp) F.agg28) ?_
      refine .two 54 55 (by decide) rfl rfl rfl rfl (o_callV (keys_Label (φ := φ) (kind := nmRoot) (l := []) (Sl_nil φ 1) (by simp) (by simp [joinB, joinE, textB, nmRoot, escB])) F.cal13 rfl rfl rfl (by simp) ⟨(by first | exact Incl.refl _ _ | exact ⟨by simp, by simp⟩), ?_⟩) (o_buildD1 _ _ Tryd.underlying26 F.ze9 rfl rfl rfl rfl rfl rfl (by omega) (fun gb93 hgb93 => ⟨(by first | exact Incl.refl _ _ | exact ⟨by simp, by simp⟩), ?_⟩))
      ·
        refine .one 55 (by decide) rfl (o_buildD1 _ _ Tryd.underlying26 F.ze9 rfl rfl rfl rfl rfl rfl (by omega) (fun gb93 hgb93 => ⟨(by first | exact Incl.refl _ _ | exact ⟨by simp, by simp⟩), ?_⟩))
        refine .one 56 (by decide) rfl (o_callBV (v := str (joinB [nmRoot])) (fun w hst => by obtain ⟨φ9, h1, h2⟩ := hst.borrow (i := 0) rfl; exact ⟨[φ9], by simp [h1], code_Join (l := [nmRoot]) h2 (by simp [joinB, joinE, textB, nmRoot, escB])⟩) F.cal38 rfl rfl rfl ⟨(by first | exact Incl.refl _ _ | exact ⟨by simp, by simp⟩), ?_⟩)
        refine .takeP 57 rfl (by decide) (y_seql rfl rfl) ?_
        refine .takeP 58 rfl (by decide) (y_pick rfl rfl) ?_
        refine .takeP 59 rfl (by decide) (y_assign rfl) ?_
        refine .done (by decide) ?_
        refine W.ret ?_
        exact ret1 rfl rfl [] [] ⟨rfl, rfl, rfl⟩ (by simp) (by simp)
      ·
        refine .one 54 (by decide) rfl (o_callV (keys_Label (φ := φ) (kind := nmRoot) (l := []) (Sl_nil φ 1) (by simp) (by simp [joinB, joinE, textB, nmRoot, escB])) F.cal13 rfl rfl rfl (by simp) ⟨(by first | exact Incl.refl _ _ | exact ⟨by simp, by simp⟩), ?_⟩)
        refine .one 56 (by decide) rfl (o_callBV (v := str (joinB [nmRoot])) (fun w hst => by obtain ⟨φ9, h1, h2⟩ := hst.borrow (i := 0) rfl; exact ⟨[φ9], by simp [h1], code_Join (l := [nmRoot]) h2 (by simp [joinB, joinE, textB, nmRoot, escB])⟩) F.cal38 rfl rfl rfl ⟨(by first | exact Incl.refl _ _ | exact ⟨by simp, by simp⟩), ?_⟩)
        refine .takeP 57 rfl (by decide) (y_seql rfl rfl) ?_
        refine .takeP 58 rfl (by decide) (y_pick rfl rfl) ?_
        refine .takeP 59 rfl (by decide) (y_assign rfl) ?_
        refine .done (by decide) ?_
        refine W.ret ?_
        exact ret1 rfl rfl [] [] ⟨rfl, rfl, rfl⟩ (by simp) (by simp)
    ·
      refine .one 36 (by decide) rfl (o_callV (keys_Nonce (n := 1) (by decide)) F.cal9 rfl rfl rfl (by simp) ⟨(by first | exact Incl.refl _ _ | exact ⟨by simp, by simp⟩), ?_⟩)
      refine .takeP 39 rfl (by decide) (y_seql rfl rfl) ?_
      refine .takeP 40 rfl (by decide) (y_pick rfl rfl) ?_
      refine .takeP 41 rfl (by decide) (y_move rfl) ?_
      refine .take 42 rfl (by decide) (y_loadA 1 rfl rfl (by simp) F.agg28) ?_
      refine .take 43 rfl (by decide) (y_loadA 1 rfl rfl (by simp) F.agg28) ?_
      refine .one 44 (by decide) rfl (o_callV (keys_Same (φ := φw) (φ2 := φw) hpw hpw) F.cal37 rfl rfl rfl (by simp) ⟨(by first | exact Incl.refl _ _ | exact ⟨by simp, by simp⟩), ?_⟩)
      rw [decide_eq_true (⟨rfl, rfl, rfl⟩ : _ ∧ _ ∧ _)]
      refine .takeP 45 rfl (by decide) (y_pick rfl rfl) ?_
      refine .takeP 46 rfl (by decide) (y_move rfl) ?_
      refine .take 47 rfl (by decide) (y_loadA 1 rfl rfl (by simp) F.agg28) ?_
      refine .take 48 rfl (by decide) (y_loadA 2 rfl rfl (by simp) F.agg28) ?_
      refine .one 49 (by decide) rfl (o_callV (keys_Same (φ := φw) (φ2 := φk) hpw hpk) F.cal37 rfl rfl rfl (by simp) ⟨(by first | exact Incl.refl _ _ | exact ⟨by simp, by simp⟩), ?_⟩)
      rw [decide_eq_false (fun h => absurd h.1 (by decide))]
      refine .takeP 50 rfl (by decide) (y_not rfl) ?_
      refine .takeP 51 rfl (by decide) (y_pick rfl rfl) ?_
      refine .takeP 52 rfl (by decide) (y_move rfl) ?_
      refine .take 53 rfl (by decide) (y_loadA 5 rfl rfl (by simp) F.agg28) ?_
      refine .two 54 55 (by decide) rfl rfl rfl rfl (o_callV (keys_Label (φ := φ) (kind := nmRoot) (l := []) (Sl_nil φ 1) (by simp) (by simp [joinB, joinE, textB, nmRoot, escB])) F.cal13 rfl rfl rfl (by simp) ⟨(by first | exact Incl.refl _ _ | exact ⟨by simp, by simp⟩), ?_⟩) (o_buildD1 _ _ Tryd.underlying26 F.ze9 rfl rfl rfl rfl rfl rfl (by omega) (fun gb93 hgb93 => ⟨(by first | exact Incl.refl _ _ | exact ⟨by simp, by simp⟩), ?_⟩))
      ·
        refine .one 55 (by decide) rfl (o_buildD1 _ _ Tryd.underlying26 F.ze9 rfl rfl rfl rfl rfl rfl (by omega) (fun gb93 hgb93 => ⟨(by first | exact Incl.refl _ _ | exact ⟨by simp, by simp⟩), ?_⟩))
        refine .one 56 (by decide) rfl (o_callBV (v := str (joinB [nmRoot])) (fun w hst => by obtain ⟨φ9, h1, h2⟩ := hst.borrow (i := 0) rfl; exact ⟨[φ9], by simp [h1], code_Join (l := [nmRoot]) h2 (by simp [joinB, joinE, textB, nmRoot, escB])⟩) F.cal38 rfl rfl rfl ⟨(by first | exact Incl.refl _ _ | exact ⟨by simp, by simp⟩), ?_⟩)
        refine .takeP 57 rfl (by decide) (y_seql rfl rfl) ?_
        refine .takeP 58 rfl (by decide) (y_pick rfl rfl) ?_
        refine .takeP 59 rfl (by decide) (y_assign rfl) ?_
        refine .done (by decide) ?_
        refine W.ret ?_
        exact ret1 rfl rfl [] [] ⟨rfl, rfl, rfl⟩ (by simp) (by simp)
      ·
        refine .one 54 (by decide) rfl (o_callV (keys_Label (φ := φ) (kind := nmRoot) (l := []) (Sl_nil φ 1) (by simp) (by simp [joinB, joinE, textB, nmRoot, escB])) F.cal13 rfl rfl rfl (by simp) ⟨(by first | exact Incl.refl _ _ | exact ⟨by simp, by simp⟩), ?_⟩)
        refine .one 56 (by decide) rfl (o_callBV (v := str (joinB [nmRoot])) (fun w hst => by obtain ⟨φ9, h1, h2⟩ := hst.borrow (i := 0) rfl; exact ⟨[φ9], by simp [h1], code_Join (l := [nmRoot]) h2 (by simp [joinB, joinE, textB, nmRoot, escB])⟩) F.cal38 rfl rfl rfl ⟨(by first | exact Incl.refl _ _ | exact ⟨by simp, by simp⟩), ?_⟩)
        refine .takeP 57 rfl (by decide) (y_seql rfl rfl) ?_
        refine .takeP 58 rfl (by decide) (y_pick rfl rfl) ?_
        refine .takeP 59 rfl (by decide) (y_assign rfl) ?_
        refine .done (by decide) ?_
        refine W.ret ?_
        exact ret1 rfl rfl [] [] ⟨rfl, rfl, rfl⟩ (by simp) (by simp)
/-! ### KeysNonces -/
theorem bigL_succ (n : Int) (k : Nat) : bigL n (k + 1) = lowB n k :: bigL n k := by simp [bigL, lowL, List.range_succ]
theorem lowB_int {n : Int} (h0 : 0 ≤ n) (k : Nat) : ((lowB n k).toNat : Int) = n / 256 ^ k % 256 := by
  unfold lowB
  have h1 : (0 : Int) ≤ n / 2 ^ (8 * k) % 256 := Int.emod_nonneg _ (by omega)
  have h2 : n / 2 ^ (8 * k) % 256 < 256 := Int.emod_lt_of_pos _ (by omega)
  have e : (2 : Int) ^ (8 * k) = 256 ^ k := by rw [Int.pow_mul]; rfl
  rw [UInt8.toNat_ofNat', Nat.mod_eq_of_lt (by omega), ← e]
  omega
/-- A number, its highest byte off. -/
theorem split_mod (n : Int) (k : Nat) : n % 256 ^ (k + 1) = n / 256 ^ k % 256 * 256 ^ k + n % 256 ^ k := by
  have hp : (0 : Int) < 256 ^ k := Int.pow_pos (by omega)
  rw [Int.pow_succ]
  generalize (256 : Int) ^ k = P at *
  have h1 := Int.emod_add_mul_ediv n P
  have h2 := Int.emod_add_mul_ediv (n / P) 256
  have h3 : 0 ≤ n % P := Int.emod_nonneg _ (by omega)
  have h4 : n % P < P := Int.emod_lt_of_pos _ hp
  have h5 : 0 ≤ n / P % 256 := Int.emod_nonneg _ (by omega)
  have h6 : n / P % 256 < 256 := Int.emod_lt_of_pos _ (by omega)
  have h7 : (n / P % 256 + 1) * P ≤ 256 * P := Int.mul_le_mul_of_nonneg_right (by omega) (by omega)
  have h8 : 0 ≤ n / P % 256 * P := Int.mul_nonneg h5 (by omega)
  have e : n = n / P % 256 * P + n % P + P * 256 * (n / P / 256) := by
    have h9 : P * (n / P) = P * (n / P % 256) + P * (256 * (n / P / 256)) := by rw [← Int.mul_add, h2]
    rw [Int.mul_assoc, Int.mul_comm (n / P % 256) P]
    omega
  rw [Int.add_mul] at h7
  have h10 : n % (P * 256) = (n / P % 256 * P + n % P + P * 256 * (n / P / 256)) % (P * 256) := by rw [← e]
  rw [h10, Int.add_mul_emod_self_left, Int.emod_eq_of_lt (by omega) (by omega)]
theorem low_lt (n : Int) (k : Nat) : 0 ≤ n % 256 ^ k ∧ n % 256 ^ k < 256 ^ k := ⟨Int.emod_nonneg _ (Int.ne_of_gt (Int.pow_pos (by omega))), Int.emod_lt_of_pos _ (Int.pow_pos (by omega))⟩
theorem lex_lt {a b r s P : Int} (hr : 0 ≤ r ∧ r < P) (hs : 0 ≤ s ∧ s < P) : a * P + r < b * P + s ↔ a < b ∨ a = b ∧ r < s := by
  constructor
  · intro h
    rcases Int.lt_trichotomy a b with h1 | h1 | h1
    · exact .inl h1
    · subst h1; exact .inr ⟨rfl, by omega⟩
    · exfalso
      have : (b + 1) * P ≤ a * P := Int.mul_le_mul_of_nonneg_right (by omega) (by omega)
      rw [Int.add_mul] at this
      omega
  · rintro (h | ⟨rfl, h⟩)
    · have : (a + 1) * P ≤ b * P := Int.mul_le_mul_of_nonneg_right (by omega) (by omega)
      rw [Int.add_mul] at this
      omega
    · omega
theorem lex_eq {a b r s P : Int} (hr : 0 ≤ r ∧ r < P) (hs : 0 ≤ s ∧ s < P) : a * P + r = b * P + s ↔ a = b ∧ r = s := by
  constructor
  · intro h
    have h1 := (not_congr (lex_lt (a := a) (b := b) hr hs)).1 (by omega)
    have h2 := (not_congr (lex_lt (a := b) (b := a) hs hr)).1 (by omega)
    rcases Int.lt_trichotomy a b with h3 | h3 | h3
    · exact absurd (.inl h3) h1
    · subst h3; exact ⟨rfl, by omega⟩
    · exact absurd (.inl h3) h2
  · rintro ⟨rfl, rfl⟩; rfl
theorem u8_lt (a b : UInt8) : a < b ↔ (a.toNat : Int) < b.toNat := by rw [UInt8.lt_iff_toNat_lt]; omega
theorem u8_eq (a b : UInt8) : a = b ↔ (a.toNat : Int) = b.toNat := by rw [← UInt8.toNat_inj]; omega
theorem bigL_eq {n m : Int} (hn : 0 ≤ n) (hm : 0 ≤ m) : ∀ k, bigL n k = bigL m k ↔ n % 256 ^ k = m % 256 ^ k
  | 0 => by simp [bigL, lowL, Int.emod_one]
  | k + 1 => by
    rw [bigL_succ, bigL_succ, List.cons.injEq, u8_eq, lowB_int hn, lowB_int hm, bigL_eq hn hm k, split_mod n, split_mod m, lex_eq (low_lt n k) (low_lt m k)]
theorem bigL_less {n m : Int} (hn : 0 ≤ n) (hm : 0 ≤ m) : ∀ k, Op.bytesLess (bigL n k) (bigL m k) = decide (n % 256 ^ k < m % 256 ^ k)
  | 0 => by simp [bigL, lowL, Int.emod_one, Op.bytesLess]
  | k + 1 => by
    have ih := bigL_less hn hm k
    rw [bigL_succ, bigL_succ, Op.bytesLess, ih, Bool.eq_iff_iff, decide_eq_true_eq, split_mod n, split_mod m, lex_lt (low_lt n k) (low_lt m k)]
    rw [← lowB_int hn, ← lowB_int hm, ← u8_lt, ← u8_eq]
    simp
theorem less_app (a b c : List UInt8) : Op.bytesLess (a ++ b) (a ++ c) = Op.bytesLess b c := by
  induction a with
  | nil => rfl
  | cons x a ih =>
    rw [List.cons_append, List.cons_append, Op.bytesLess, ih]
    simp
theorem keysNonces_spec {φ : Frag} {n m : Int} (hG : KeysG φ) (hn : 0 ≤ n ∧ n < 18446744073709551616) (hm : 0 ≤ m ∧ m < 18446744073709551616) : Spec Tryd.prog 3 #[.int .u64 n, .int .u64 m] [] [φ] (Val (.bool true)) := by
  refine Spec.body (args := [.int .u64 n, .int .u64 m]) (n := 39) Tryd.func3 rfl Tryd.ntmps3 (by simp) fun w0 hw0 => ?_
  have e1 : (bigL 0 4 ++ bigL n 8).length = 12 := by rw [List.length_append, bigL_len, bigL_len]
  have hp : (256 : Int) ^ 8 = 18446744073709551616 := by decide
  have e2 : decide (bigL 0 4 ++ bigL n 8 = bigL 0 4 ++ bigL m 8) = decide (n = m) := by rw [decide_eq_decide, List.append_cancel_left_eq, bigL_eq hn.1 hm.1, hp, Int.emod_eq_of_lt hn.1 hn.2, Int.emod_eq_of_lt hm.1 hm.2]
  have e3 : Op.bytesLess (bigL 0 4 ++ bigL n 8) (bigL 0 4 ++ bigL m 8) = decide (n < m) := by rw [less_app, bigL_less hn.1 hm.1, hp, Int.emod_eq_of_lt hn.1 hn.2, Int.emod_eq_of_lt hm.1 hm.2]
  refine W.seq ?_
  refine W.region ?_
  refine .op (.y (y_assign rfl) ?_)
  refine .nil ?_
  refine W.seq ?_
  refine W.region ?_
  refine .op (o_callV (law14_works hG) F.cal8 rfl rfl rfl (by simp) ?_)
  refine .op (.y (y_assign rfl) ?_)
  refine .nil ?_
  refine W.seq ?_
  refine W.seq ?_
  refine W.region ?_
  refine .op (.y (y_move rfl) ?_)
  refine .op (.y (y_not rfl) ?_)
  refine .nil ?_
  refine W.condF (rfl) ?_
  refine W.skip ?_
  refine W.seq ?_
  refine W.region ?_
  refine .op (.y (y_move rfl) ?_)
  refine .op (o_callV (keys_Nonce hn.1) F.cal9 rfl rfl rfl (by simp) ?_)
  refine .op (.y (y_assign rfl) ?_)
  refine .nil ?_
  refine W.seq ?_
  refine W.region ?_
  refine .op (.y (y_move rfl) ?_)
  refine .op (o_callV (keys_Nonce hm.1) F.cal9 rfl rfl rfl (by simp) ?_)
  refine .op (.y (y_assign rfl) ?_)
  refine .nil ?_
  refine W.seq ?_
  refine W.region ?_
  refine .op (.y (y_move rfl) ?_)
  refine .op (.y (y_move rfl) ?_)
  refine .op (.y (y_move rfl) ?_)
  refine .op (.y (y_slen rfl Tryd.underlying9) ?_)
  refine .op (.y (y_eqlN (j := 12) rfl rfl) ?_)
  rw [e1]
  refine .op (.y (y_pick rfl rfl) ?_)
  refine .op (.y (y_move rfl) ?_)
  refine .op (.y (y_move rfl) ?_)
  refine .op (.y (y_move rfl) ?_)
  refine .op (.y (y_seql rfl rfl) ?_)
  rw [e2]
  refine .op (.y (y_move rfl) ?_)
  refine .op (.y (y_move rfl) ?_)
  refine .op (.y (y_eql rfl rfl) ?_)
  refine .op (.y (y_eqlB rfl rfl Tryd.underlying4) ?_)
  rw [beq_self_eq_true]
  refine .op (.y (y_pick rfl rfl) ?_)
  refine .op (.y (y_move rfl) ?_)
  refine .op (.y (y_move rfl) ?_)
  refine .op (.y (y_move rfl) ?_)
  refine .op (.y (y_slss rfl rfl) ?_)
  rw [e3]
  refine .op (.y (y_move rfl) ?_)
  refine .op (.y (y_move rfl) ?_)
  refine .op (.y (y_lss rfl rfl) ?_)
  refine .op (.y (y_eqlB rfl rfl Tryd.underlying4) ?_)
  rw [beq_self_eq_true]
  refine .op (.y (y_pick rfl rfl) ?_)
  refine .op (.y (y_assign rfl) ?_)
  refine .nil ?_
  refine W.ret ?_
  exact ret1 rfl rfl [] [] ⟨rfl, rfl, rfl⟩ (by simp) (by simp)
end Go.Proofs.Sep
