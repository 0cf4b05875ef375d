/- Package keys: its exported functions. -/
import Derived.Test.YtpnhedlciamegaaDoorKeys
import Derived.Test.YtpnhedlciamegaaDoorSepP
set_option linter.all false
set_option linter.unusedSimpArgs false
set_option linter.unnecessarySimpa false
set_option linter.deprecated false
set_option maxRecDepth 100000
set_option linter.unusedVariables false
namespace Go.Proofs.Sep
open Go Go.RowKit

theorem keys_Root {φ : Frag} {seed : List UInt8} (hsh : ShaG φ) (hs : seed.length ≤ 1000000000) : Spec Tryd.prog 32 #[str seed] [] [φ] (Val (keyV [114, 111, 111, 116] (.slice none 0 0) (hmac [99, 114, 121, 112, 116, 101, 120] [seed]))) := by
  refine Spec.body (args := [str seed]) (n := 6) Tryd.func32 rfl Tryd.ntmps32 (by simp) fun w0 hw0 => ?_
  refine W.seq ?_
  refine W.region ?_
  refine .op (o_allocC [(str []), (.slice none 0 0), (str [])] F.ze28 rfl (fun b2 hb2 => ?_))
  refine .nil ?_
  refine W.seq ?_
  refine W.region ?_
  refine .op (.y (y_move rfl) ?_)
  refine .op (o_callV (mac_Extract (key := [99, 114, 121, 112, 116, 101, 120]) (s := seed) hsh (by simp) (by omega)) F.cal67 rfl rfl rfl (by simp) ?_)
  refine .op (.y (y_build (cs := #[str [114, 111, 111, 116], .slice none 0 0, str (hmac [99, 114, 121, 112, 116, 101, 120] [seed])]) F.ze28 F.pl28 rfl rfl) ?_)
  refine .op (o_storeN (vs := [str [114, 111, 111, 116], .slice none 0 0, str (hmac [99, 114, 121, 112, 116, 101, 120] [seed])]) 0 rfl rfl rfl rfl (Nat.le_refl 3) (key_one rfl) F.sz28 ?_)
  refine .nil ?_
  refine W.ret ?_
  exact retC 0 rfl rfl rfl F.agg28 [] [] ⟨rfl, rfl, rfl⟩ (by simp) (by simp)
theorem keys_Coll {Fs : List Frag} {kk kb name : List UInt8} {pv : Value} {R : List UInt8 → Value → List UInt8 → Int → List Res → Prop} (hpv : pv.oneCell' = true) (hs : ∀ φ2 v, Sl φ2 v 1 (strs [name]) → Spec Tryd.prog 69 #[keyV kk pv kb, str [99, 111, 108, 108], v] [] (φ2 :: Fs) (KP R)) : Spec Tryd.prog 34 #[keyV kk pv kb, str name] [] Fs (KP R) := by
  refine Spec.body (args := [keyV kk pv kb, str name]) (n := 13) Tryd.func34 rfl Tryd.ntmps34 (by simp) fun w0 hw0 => ?_
  refine W.seq ?_
  refine W.region ?_
  refine .op (o_boxC (cs := [str kk, pv, str kb]) rfl rfl (fun b2 hb2 => ?_))
  refine .op (o_allocC [(str []), (.slice none 0 0), (str [])] F.ze28 rfl (fun b4 hb4 => ?_))
  refine .op (.y (y_assign rfl) ?_)
  refine .nil ?_
  refine W.seq ?_
  refine W.region ?_
  refine .op (.y (y_loadA 1 rfl rfl (by simp) F.agg28) ?_)
  refine .op (.y (y_makeFunc rfl rfl) ?_)
  refine .op (.y (y_move rfl) ?_)
  refine .op (o_buildD1 _ _ Tryd.underlying26 F.ze9 rfl rfl rfl rfl rfl rfl (by omega) (fun gb9 hgb9 => ?_))
  refine WL.freezeRow 0 rfl fun φ2 hφ2 => ?_
  refine .op (o_callF (rs := []) (rest := _) (keys_down (hs _ _ hφ2)) F.cal68 rfl rfl rfl (List.Perm.refl _) (by simp) (fun v10 rs10 cs10 hv10 => ?_))
  obtain ⟨a, b, c, e, rfl, hb, hR, rfl⟩ := hv10
  refine .op (.y (y_extract rfl rfl) ?_)
  refine .op (.y (y_extract rfl rfl) ?_)
  refine .op (o_storeN (vs := [str a, b, str c]) 0 rfl rfl rfl rfl (Nat.le_refl 3) (key_one hb) F.sz28 ?_)
  refine .op (.y (y_assign rfl) ?_)
  refine .nil ?_
  refine W.ret ?_
  exact retCT 0 rfl rfl rfl F.agg28 rfl rs10 [] ⟨_, rfl, a, b, c, e, rfl, hb, hR, rfl⟩ (List.sublist_append_right [_, _] _) (by simp)
theorem keys_Blob {Fs : List Frag} {kk kb name : List UInt8} {pv : Value} {R : List UInt8 → Value → List UInt8 → Int → List Res → Prop} (hpv : pv.oneCell' = true) (hs : ∀ φ2 v, Sl φ2 v 1 (strs [name]) → Spec Tryd.prog 69 #[keyV kk pv kb, str [98, 108, 111, 98], v] [] (φ2 :: Fs) (KP R)) : Spec Tryd.prog 35 #[keyV kk pv kb, str name] [] Fs (KP R) := by
  refine Spec.body (args := [keyV kk pv kb, str name]) (n := 13) Tryd.func35 rfl Tryd.ntmps35 (by simp) fun w0 hw0 => ?_
  refine W.seq ?_
  refine W.region ?_
  refine .op (o_boxC (cs := [str kk, pv, str kb]) rfl rfl (fun b2 hb2 => ?_))
  refine .op (o_allocC [(str []), (.slice none 0 0), (str [])] F.ze28 rfl (fun b4 hb4 => ?_))
  refine .op (.y (y_assign rfl) ?_)
  refine .nil ?_
  refine W.seq ?_
  refine W.region ?_
  refine .op (.y (y_loadA 1 rfl rfl (by simp) F.agg28) ?_)
  refine .op (.y (y_makeFunc rfl rfl) ?_)
  refine .op (.y (y_move rfl) ?_)
  refine .op (o_buildD1 _ _ Tryd.underlying26 F.ze9 rfl rfl rfl rfl rfl rfl (by omega) (fun gb9 hgb9 => ?_))
  refine WL.freezeRow 0 rfl fun φ2 hφ2 => ?_
  refine .op (o_callF (rs := []) (rest := _) (keys_down (hs _ _ hφ2)) F.cal68 rfl rfl rfl (List.Perm.refl _) (by simp) (fun v10 rs10 cs10 hv10 => ?_))
  obtain ⟨a, b, c, e, rfl, hb, hR, rfl⟩ := hv10
  refine .op (.y (y_extract rfl rfl) ?_)
  refine .op (.y (y_extract rfl rfl) ?_)
  refine .op (o_storeN (vs := [str a, b, str c]) 0 rfl rfl rfl rfl (Nat.le_refl 3) (key_one hb) F.sz28 ?_)
  refine .op (.y (y_assign rfl) ?_)
  refine .nil ?_
  refine W.ret ?_
  exact retCT 0 rfl rfl rfl F.agg28 rfl rs10 [] ⟨_, rfl, a, b, c, e, rfl, hb, hR, rfl⟩ (List.sublist_append_right [_, _] _) (by simp)
theorem keys_Word {Fs : List Frag} {kk kb path value : List UInt8} {pv : Value} {R : List UInt8 → Value → List UInt8 → Int → List Res → Prop} (hpv : pv.oneCell' = true) (hs : ∀ φ2 v, Sl φ2 v 1 (strs [path, value]) → Spec Tryd.prog 69 #[keyV kk pv kb, str [119, 111, 114, 100], v] [] (φ2 :: Fs) (KP R)) : Spec Tryd.prog 36 #[keyV kk pv kb, str path, str value] [] Fs (KP R) := by
  refine Spec.body (args := [keyV kk pv kb, str path, str value]) (n := 16) Tryd.func36 rfl Tryd.ntmps36 (by simp) fun w0 hw0 => ?_
  refine W.seq ?_
  refine W.region ?_
  refine .op (o_boxC (cs := [str kk, pv, str kb]) rfl rfl (fun b3 hb3 => ?_))
  refine .op (o_allocC [(str []), (.slice none 0 0), (str [])] F.ze28 rfl (fun b6 hb6 => ?_))
  refine .op (.y (y_assign rfl) ?_)
  refine .nil ?_
  refine W.seq ?_
  refine W.region ?_
  refine .op (.y (y_loadA 1 rfl rfl (by simp) F.agg28) ?_)
  refine .op (.y (y_makeFunc rfl rfl) ?_)
  refine .op (.y (y_move rfl) ?_)
  refine .op (.y (y_move rfl) ?_)
  refine .op (o_buildD1 _ _ Tryd.underlying26 F.ze9 rfl rfl rfl rfl rfl rfl (by omega) (fun gb12 hgb12 => ?_))
  refine WL.freezeRow 0 rfl fun φ2 hφ2 => ?_
  refine .op (o_callF (rs := []) (rest := _) (keys_down (hs _ _ hφ2)) F.cal68 rfl rfl rfl (List.Perm.refl _) (by simp) (fun v10 rs10 cs10 hv10 => ?_))
  obtain ⟨a, b, c, e, rfl, hb, hR, rfl⟩ := hv10
  refine .op (.y (y_extract rfl rfl) ?_)
  refine .op (.y (y_extract rfl rfl) ?_)
  refine .op (o_storeN (vs := [str a, b, str c]) 0 rfl rfl rfl rfl (Nat.le_refl 3) (key_one hb) F.sz28 ?_)
  refine .op (.y (y_assign rfl) ?_)
  refine .nil ?_
  refine W.ret ?_
  exact retCT 0 rfl rfl rfl F.agg28 rfl rs10 [] ⟨_, rfl, a, b, c, e, rfl, hb, hR, rfl⟩ (List.sublist_append_right [_, _] _) (by simp)
theorem keys_Epoch {Fs : List Frag} {kk kb : List UInt8} {n : Nat} {pv : Value} {R : List UInt8 → Value → List UInt8 → Int → List Res → Prop} (hpv : pv.oneCell' = true) (hs : ∀ φ2 v, Sl φ2 v 1 (strs [bigL (IntKind.u64.wrap (n : Int)) 8]) → Spec Tryd.prog 69 #[keyV kk pv kb, str [101, 112, 111, 99, 104], v] [] (φ2 :: Fs) (KP R)) : Spec Tryd.prog 33 #[keyV kk pv kb, .int .i64 (n : Int)] [] Fs (KP R) := by
  refine Spec.body (args := [keyV kk pv kb, .int .i64 (n : Int)]) (n := 18) Tryd.func33 rfl Tryd.ntmps33 (by simp) fun w0 hw0 => ?_
  refine W.seq ?_
  refine W.region ?_
  refine .op (o_boxC (cs := [str kk, pv, str kb]) rfl rfl (fun b2 hb2 => ?_))
  refine .op (o_allocC [(str []), (.slice none 0 0), (str [])] F.ze28 rfl (fun b4 hb4 => ?_))
  refine .op (.y (y_assign rfl) ?_)
  refine .nil ?_
  refine W.seq ?_
  refine W.seq ?_
  refine W.region ?_
  refine .op (.y (y_move rfl) ?_)
  refine .op (.y (y_lssN (j := 0) rfl rfl) ?_)
  rw [show decide (n < 0) = false from by simp]
  refine .nil ?_
  refine W.condF (rfl) ?_
  refine W.skip ?_
  refine W.seq ?_
  refine W.draw F.mixed (true, [([], []), ([0], [0]), ([], []), ([2], [2]), ([3], [3]), ([4], [4]), ([1, 5, 4], [1, 5]), ([6], [6]), ([6], [6]), ([7, 6, 0, 1, 2, 3, 4, 5, 6, 7, 8], [7]), ([8, 9, 0, 1, 2, 3, 4, 5, 6, 7, 8, 9], [8])]) [9, 10] (by kernel_rfl) _ _ (Incl.refl _ _) ?_
  refine .take 0 rfl (by decide) (y_loadA 1 rfl rfl (by simp) F.agg28) ?_
  refine .takeP 1 rfl (by decide) (y_makeFunc rfl rfl) ?_
  refine .takeP 2 rfl (by decide) (y_move rfl) ?_
  refine .takeP 3 rfl (by decide) (y_conv rfl Tryd.underlying3 Tryd.underlying22) ?_
  refine .one 4 (by decide) rfl (o_callV (octet_Big (wrap_u64_nonneg _) (by decide)) F.cal39 rfl rfl rfl (by simp) ⟨(by first | exact Incl.refl _ _ | exact ⟨by simp, by simp⟩), ?_⟩)
  rw [show bigN 8 = 8 from rfl]
  refine .one 5 (by decide) rfl (o_buildD1 _ _ Tryd.underlying26 F.ze9 rfl rfl rfl rfl rfl rfl (by omega) (fun gb14 hgb14 => ⟨(by first | exact Incl.refl _ _ | exact ⟨by simp, by simp⟩), ?_⟩))
  refine .one 6 (by decide) rfl (o_callBF (post := fun u rs => ∃ a b c e, u = .tuple #[keyV a b c, .int .i64 e] ∧ b.oneCell' = true ∧ R a b c e rs) (fun w hst => by obtain ⟨φ9, h1, h2⟩ := hst.borrow (i := 0) rfl; exact ⟨φ9 :: Fs, by simp only [List.mem_cons, forall_eq_or_imp]; exact ⟨h1, fun φ hφ => hst.sub φ (by simp [hφ])⟩, (keys_down (hs _ _ h2)).mono fun e rs' cs' ⟨v', he, a, b, c, e', h3, h4, h5, h6⟩ => ⟨v', he, h6, a, b, c, e', h3, h4, h5⟩⟩) F.cal68 rfl rfl rfl (fun v15 rs15 hv15 => ⟨(by first | exact Incl.refl _ _ | exact ⟨by simp, by simp⟩), ?_⟩))
  obtain ⟨a, b, c, e, rfl, hb, hR⟩ := hv15
  refine .takeP 7 rfl (by decide) (y_extract rfl rfl) ?_
  refine .takeP 8 rfl (by decide) (y_extract rfl rfl) ?_
  refine .sw (by decide) ?_
  refine .one 9 (by decide) rfl (o_storeN (vs := [str a, b, str c]) 1 rfl rfl rfl rfl (Nat.le_refl 3) (key_one hb) F.sz28 ⟨Incl.none _ _, ?_⟩)
  refine .takeP 10 rfl (by decide) (y_assign rfl) ?_
  refine .done (by decide) ?_
  refine W.ret ?_
  exact retCT 1 rfl rfl rfl F.agg28 rfl rs15 [] ⟨_, rfl, a, b, c, e, rfl, hb, hR, rfl⟩ (List.sublist_append_right [_, _, _] _) (by simp)
theorem keys_Nonce {n : Int} (hn : 0 ≤ n) : Spec Tryd.prog 9 #[.int .u64 n] [] [] (Val (str (bigL 0 4 ++ bigL n 8))) := by
  refine Spec.body (args := [.int .u64 n]) (n := 7) Tryd.func9 rfl Tryd.ntmps9 (by simp) fun w0 hw0 => ?_
  refine W.seq ?_
  refine W.region ?_
  refine .op (.y (y_assign rfl) ?_)
  refine .nil ?_
  refine W.seq ?_
  refine W.region ?_
  refine .op (o_callV (octet_Big (n := 0) (by decide) (by decide)) F.cal39 rfl rfl rfl (by simp) ?_)
  refine .op (.y (y_move rfl) ?_)
  refine .op (o_callV (octet_Big (n := n) hn (by decide)) F.cal39 rfl rfl rfl (by simp) ?_)
  rw [show bigN 4 = 4 from rfl, show bigN 8 = 8 from rfl]
  refine .op (.y (y_cat rfl rfl (by rw [bigL_len, bigL_len]; omega)) ?_)
  refine .op (.y (y_assign rfl) ?_)
  refine .nil ?_
  refine W.ret ?_
  exact ret1 rfl rfl [] [] ⟨rfl, rfl, rfl⟩ (by simp) (by simp)
theorem slices_Equal_str {φ φ2 : Frag} {u v : Value} {l m : List (List UInt8)} (hu : Sl φ u 1 (strs l)) (hv : Sl φ2 v 1 (strs m)) : Spec Tryd.prog 70 #[u, v] [] [φ, φ2] (Val (.bool (decide (l = m)))) := by
  refine Spec.body (args := [u, v]) (n := 26) Tryd.func70 rfl Tryd.ntmps70 (by simp) fun w0 hw0 => ?_
  have hll := hu.len
  rw [strs_len] at hll
  refine W.seq ?_
  refine W.region ?_
  refine .op (.y (y_assign rfl) ?_)
  refine .nil ?_
  refine W.seq ?_
  refine W.seq ?_
  refine W.region ?_
  refine .op (.y (y_move rfl) ?_)
  refine .op (.y (y_lenS rfl hu Tryd.underlying26) ?_)
  rw [strs_len]
  refine .op (.y (y_move rfl) ?_)
  refine .op (.y (y_lenS rfl hv Tryd.underlying26) ?_)
  rw [strs_len]
  refine .op (.y (y_neqN rfl rfl) ?_)
  refine .nil ?_
  refine W.cond rfl (fun hc10 => ?_) (fun hc10 => ?_)
  ·
    try simp only [decide_eq_true_eq, decide_eq_false_iff_not, Bool.not_eq_true', Bool.not_eq_false', Int.ofNat_lt, Int.ofNat_le, Int.not_lt, Nat.not_lt, Int.not_le, Nat.not_le, Int.natCast_inj, ne_eq, Decidable.not_not] at hc10
    refine W.seq ?_
    refine W.region ?_
    refine .op (.y (y_assign rfl) ?_)
    refine .nil ?_
    refine W.ret ?_
    exact ret1 rfl rfl [] [] ⟨by rw [decide_eq_false (fun h => hc10 (by rw [h]))], rfl, rfl⟩ (by simp) (by simp)
  ·
    try simp only [decide_eq_true_eq, decide_eq_false_iff_not, Bool.not_eq_true', Bool.not_eq_false', Int.ofNat_lt, Int.ofNat_le, Int.not_lt, Nat.not_lt, Int.not_le, Nat.not_le, Int.natCast_inj, ne_eq, Decidable.not_not] at hc10
    refine W.skip ?_
    refine W.seq ?_
    refine W.seq ?_
    refine W.region ?_
    refine .op (.y (y_move rfl) ?_)
    refine .op (.y (y_lenS rfl hu Tryd.underlying26) ?_)
    rw [strs_len]
    refine .op (.y (y_move rfl) ?_)
    refine .nil ?_
    refine W.block ?_
    refine W.loopI (ι := Nat) (fun i => i ≤ l.length ∧ l.take i = m.take i) (fun i => [(0, u), (1, v), (12, .int .i64 (l.length : Int)), (13, .int .i64 (i : Int))]) (fun i => []) (fun i => [φ, φ2]) (fun i => l.length - i) 0 (⟨by omega, by simp⟩)
      ⟨rfl, ⟨rfl, rfl, rfl, rfl, trivial⟩, at0, by simp⟩ ?_
    rintro i hG
    try simp only at hG ⊢
    obtain ⟨him, htk⟩ := hG
    refine W.seq ?_
    refine W.region ?_
    refine .op (.y (y_lssN rfl rfl) ?_)
    refine .nil ?_
    refine W.seq ?_
    refine W.cond rfl (fun hc14 => ?_) (fun hc14 => ?_)
    ·
      try simp only [decide_eq_true_eq, decide_eq_false_iff_not, Bool.not_eq_true', Bool.not_eq_false', Int.ofNat_lt, Int.ofNat_le, Int.not_lt, Nat.not_lt, Int.not_le, Nat.not_le, Int.natCast_inj, ne_eq, Decidable.not_not] at hc14
      refine W.skip ?_
      refine W.seq ?_
      refine W.block ?_
      refine W.seq ?_
      refine W.region ?_
      refine .op (.y (y_move rfl) ?_)
      refine .op (.y (y_assign rfl) ?_)
      refine .nil ?_
      refine W.seq ?_
      refine W.draw F.mixed (true, [([], []), ([], []), ([0, 1], [0, 1]), ([2], [2]), ([], []), ([], []), ([4, 5], [4, 5]), ([6], [6]), ([3, 7], [3, 7])]) [] (by kernel_rfl) _ _ (Incl.refl _ _) ?_
      refine .takeP 0 rfl (by decide) (y_move rfl) ?_
      refine .takeP 1 rfl (by decide) (y_move rfl) ?_
      refine .takeXP 2 rfl (by decide) (y_indexSN rfl hu rfl Tryd.underlying26 F.sz9 (strs_get hc14)) (fun v18 hv18 => ?_)
      refine .take 3 rfl (by decide) (y_loadP rfl hv18 rfl (by simp) F.sc9) ?_
      refine .takeP 4 rfl (by decide) (y_move rfl) ?_
      refine .takeP 5 rfl (by decide) (y_move rfl) ?_
      refine .takeXP 6 rfl (by decide) (y_indexSN rfl hv rfl Tryd.underlying26 F.sz9 (strs_get (by omega))) (fun v22 hv22 => ?_)
      refine .take 7 rfl (by decide) (y_loadP rfl hv22 rfl (by simp) F.sc9) ?_
      refine .takeP 8 rfl (by decide) (y_sneq rfl rfl) ?_
      refine .done (by decide) ?_
      refine W.cond rfl (fun hc24 => ?_) (fun hc24 => ?_)
      ·
        try simp only [decide_eq_true_eq, decide_eq_false_iff_not, Bool.not_eq_true', Bool.not_eq_false', Int.ofNat_lt, Int.ofNat_le, Int.not_lt, Nat.not_lt, Int.not_le, Nat.not_le, Int.natCast_inj, ne_eq, Decidable.not_not] at hc24
        refine W.seq ?_
        refine W.region ?_
        refine .op (.y (y_assign rfl) ?_)
        refine .nil ?_
        refine W.ret ?_
        exact ret1 rfl rfl [] [] ⟨by rw [decide_eq_false (fun h => hc24 (by rw [h]))], rfl, rfl⟩ (by simp) (by simp)
      ·
        try simp only [decide_eq_true_eq, decide_eq_false_iff_not, Bool.not_eq_true', Bool.not_eq_false', Int.ofNat_lt, Int.ofNat_le, Int.not_lt, Nat.not_lt, Int.not_le, Nat.not_le, Int.natCast_inj, ne_eq, Decidable.not_not] at hc24
        refine W.skip ?_
        refine W.region ?_
        refine .op (.y (y_addN (j := 1) rfl rfl (by omega)) ?_)
        refine .op (.y (y_move rfl) ?_)
        refine .nil ?_
        exact ⟨i + 1, ⟨by omega, by rw [take_getD hc14 [], take_getD (by omega) [], htk, hc24]⟩, by first | omega | (simp only; omega), rfl, ⟨rfl, rfl, rfl, rfl, trivial⟩, at0, by simp⟩
    ·
      try simp only [decide_eq_true_eq, decide_eq_false_iff_not, Bool.not_eq_true', Bool.not_eq_false', Int.ofNat_lt, Int.ofNat_le, Int.not_lt, Nat.not_lt, Int.not_le, Nat.not_le, Int.natCast_inj, ne_eq, Decidable.not_not] at hc14
      have hi' : i = l.length := by omega
      refine W.exit ?_
      refine W.seq ?_
      refine W.region ?_
      refine .op (.y (y_assign rfl) ?_)
      refine .nil ?_
      refine W.ret ?_
      exact ret1 rfl rfl [] [] ⟨by rw [decide_eq_true (by rw [hi', List.take_length] at htk; rw [htk, List.take_of_length_le (by omega)])], rfl, rfl⟩ (by simp) (by simp)
end Go.Proofs.Sep
