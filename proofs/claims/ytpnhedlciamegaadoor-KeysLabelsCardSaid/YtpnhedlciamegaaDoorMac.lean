/- Package mac. -/
import Derived.Test.YtpnhedlciamegaaDoorSum
import Derived.Test.YtpnhedlciamegaaDoorSlices
import Derived.Test.YtpnhedlciamegaaDoorSepP
set_option linter.all false
set_option linter.unusedSimpArgs false
set_option linter.unnecessarySimpa false
set_option linter.deprecated false
set_option maxRecDepth 100000
set_option linter.unusedVariables false
namespace Go.Proofs.Sep
open Go Go.RowKit

/-- What sha's variables hold. -/
structure ShaG (φ : Frag) : Prop where
  ks : Pt φ (ptr 2) (ksL.map u32)
  bg : Pt φ (ptr 0) (beginS.list.map u32)
def macKey0 (key : List UInt8) : List UInt8 := if 64 < key.length then sha key else key
def macKey (key : List UInt8) : List UInt8 := macKey0 key ++ List.replicate (64 - (macKey0 key).length) 0
theorem macKey0_len (key : List UInt8) : (macKey0 key).length ≤ 64 := by
  unfold macKey0
  split
  · rw [sha_len]; omega
  · omega
theorem macKey_len (key : List UInt8) : (macKey key).length = 64 := by
  have := macKey0_len key
  simp only [macKey, List.length_append, List.length_replicate]
  omega
def macIn (key : List UInt8) : St3 := stWrite stNew (xorL (macKey key) (List.replicate 64 54))
theorem xorL_len (a b : List UInt8) : (xorL a b).length = min a.length b.length := by simp [xorL]
theorem macIn_n (key : List UInt8) : (macIn key).n = 64 := by simp [macIn, stWrite, stNew, xorL_len, macKey_len]
/-- A sum under a key, of a state that was begun. -/
def macOut (key : List UInt8) (x : St3) : List UInt8 := sha (xorL (macKey key) (List.replicate 64 92) ++ stSum x)
def hmac (key : List UInt8) (l : List (List UInt8)) : List UInt8 := macOut key (l.foldl stWrite (macIn key))
theorem hmac_len (key : List UInt8) (l : List (List UInt8)) : (hmac key l).length = 32 := sha_len _
theorem fold_n : ∀ (l : List (List UInt8)) (x : St3), (l.foldl stWrite x).n = x.n + l.flatten.length
  | [], x => by simp
  | s :: l, x => by
    rw [List.foldl_cons, fold_n l, List.flatten_cons, List.length_append]
    simp only [stWrite]
    omega
theorem fold_rest : ∀ (l : List (List UInt8)) (x : St3), x.rest.length < 64 → (l.foldl stWrite x).rest.length < 64
  | [], x, h => h
  | s :: l, x, h => fold_rest l _ (stWrite_rest x s)
theorem mac_begin {φ : Frag} {key : List UInt8} (hsh : ShaG φ) (hk : key.length ≤ 1000000000000) : Spec Tryd.prog 106 #[str key] [] [φ] (RetP fun v rs cs => ∃ b k, v = .tuple #[ptr b, .func (.func 123) #[] #[ptr k]] ∧ rs = [stR b (macIn key), cel k 9 [str (macKey key)]] ∧ cs = []) := by
  refine Spec.body (args := [str key]) (n := 24) Tryd.func106 rfl Tryd.ntmps106 (by simp) fun w0 hw0 => ?_
  refine W.seq ?_
  refine W.region ?_
  refine .op (o_box1 rfl rfl (fun b1 hb1 => ?_))
  refine .op (.y (y_assign rfl) ?_)
  refine .op (.y (y_assign rfl) ?_)
  refine .nil ?_
  refine W.seqI (ι := Unit) (fun _ => True) (fun _ => [(1, ptr b1)]) (fun _ => [cel b1 9 [str (macKey0 key)]]) (fun _ => [φ]) ?_ ?_
  ·
    refine W.seq ?_
    refine W.region ?_
    refine .op (.y (y_load 0 rfl rfl rfl F.sc9) ?_)
    refine .op (.y (y_slen rfl Tryd.underlying9) ?_)
    refine .op (.y (y_gtrN (j := 64) rfl rfl) ?_)
    refine .nil ?_
    refine W.cond rfl (fun hc7 => ?_) (fun hc7 => ?_)
    ·
      try simp only [decide_eq_true_eq, decide_eq_false_iff_not, Bool.not_eq_true', Bool.not_eq_false', Int.ofNat_lt, Int.ofNat_le, Int.not_lt, Nat.not_lt, Int.not_le, Nat.not_le, Int.natCast_inj, ne_eq, Decidable.not_not] at hc7
      refine W.region ?_
      refine .op (.y (y_load 0 rfl rfl rfl F.sc9) ?_)
      refine .op (o_callV (sha_Sum hsh.ks hsh.bg hk) F.cal31 rfl rfl rfl (by simp) ?_)
      refine .op (o_store 0 rfl rfl rfl rfl (by simp) F.sz9 ?_)
      refine .nil ?_
      exact ⟨(), by first | trivial | omega, rfl, ⟨rfl, trivial⟩, at1 0 (by simp [macKey0, hc7]), by simp⟩
    ·
      try simp only [decide_eq_true_eq, decide_eq_false_iff_not, Bool.not_eq_true', Bool.not_eq_false', Int.ofNat_lt, Int.ofNat_le, Int.not_lt, Nat.not_lt, Int.not_le, Nat.not_le, Int.natCast_inj, ne_eq, Decidable.not_not] at hc7
      refine W.skip ?_
      exact ⟨(), by first | trivial | omega, rfl, ⟨rfl, trivial⟩, at1 0 (by simp [macKey0, Nat.not_lt.2 hc7]), by simp⟩
  ·
    rintro _ _hj
    have hkl := macKey0_len key
    refine W.seq ?_
    refine W.draw F.mixed (true, [([], []), ([], []), ([1], [1]), ([2], [2]), ([3], [3]), ([0, 4], [0, 4]), ([5, 4, 0, 1, 2, 3, 4, 5], [5])]) [6] (by kernel_rfl) _ _ (Incl.refl _ _) ?_
    refine .take 0 rfl (by decide) (y_load 0 rfl rfl rfl F.sc9) ?_
    refine .take 1 rfl (by decide) (y_load 0 rfl rfl rfl F.sc9) ?_
    refine .takeP 2 rfl (by decide) (y_slen rfl Tryd.underlying9) ?_
    refine .takeP 3 rfl (by decide) (y_subN (i := 64) rfl rfl (by omega) (by omega)) ?_
    refine .one 4 (by decide) rfl (o_callV (strings_Repeat (x := 0) (c := 64 - (macKey0 key).length) (by omega)) F.cal105 rfl rfl rfl (by simp) ⟨(by first | exact Incl.refl _ _ | exact ⟨by simp, by simp⟩), ?_⟩)
    refine .takeP 5 rfl (by decide) (y_cat rfl rfl (by simp; omega)) ?_
    refine .sw (by decide) ?_
    refine .one 6 (by decide) rfl (o_store 0 rfl rfl rfl rfl (by simp) F.sz9 ⟨Incl.none _ _, ?_⟩)
    refine .done (by decide) ?_
    refine W.seq ?_
    refine W.region ?_
    refine .op (o_call (sha_New hsh.bg) F.cal64 rfl rfl rfl (by simp) (fun v rs' cs' hv => ?_))
    obtain ⟨b, rfl, rfl, rfl⟩ := hv
    refine .op (.y (y_assign rfl) ?_)
    refine .nil ?_
    refine W.seq ?_
    refine W.draw F.mixed (true, [([], []), ([], []), ([], []), ([1, 2, 2], [1, 2]), ([0, 3, 3], [0, 3])]) [4] (by kernel_rfl) _ _ (Incl.refl _ _) ?_
    refine .takeP 0 rfl (by decide) (y_move rfl) ?_
    refine .take 1 rfl (by decide) (y_load 1 rfl rfl rfl F.sc9) ?_
    refine .one 2 (by decide) rfl (o_callV (strings_Repeat (x := 54) (c := 64) (by omega)) F.cal105 rfl rfl rfl (by simp) ⟨(by first | exact Incl.refl _ _ | exact ⟨by simp, by simp⟩), ?_⟩)
    refine .one 3 (by decide) rfl (o_callV (octet_Xor (a := macKey key) (b := List.replicate 64 54) (by rw [macKey_len]; omega)) F.cal122 rfl rfl rfl (by simp) ⟨(by first | exact Incl.refl _ _ | exact ⟨by simp, by simp⟩), ?_⟩)
    refine .sw (by decide) ?_
    refine .one 4 (by decide) rfl (o_call1 0 (State_Write (x := stNew) (s := xorL (macKey key) (List.replicate 64 54)) hsh.ks (by simp [stNew]) (by simp [stNew, xorL_len, macKey_len])) rfl F.cal65 rfl rfl rfl (by simp) (fun v rs' cs' hv => ⟨Incl.none _ _, ?_⟩))
    obtain ⟨rfl, rfl, rfl⟩ := hv
    refine .done (by decide) ?_
    refine W.seq ?_
    refine W.region ?_
    refine .op (.y (y_move rfl) ?_)
    refine .op (.y (y_makeFunc rfl rfl) ?_)
    refine .op (.y (y_assign rfl) ?_)
    refine .op (.y (y_assign rfl) ?_)
    refine .nil ?_
    refine W.ret ?_
    exact ret2 rfl rfl rfl [stR b (macIn key), cel b1 9 [str (macKey key)]] [] ⟨_, rfl, b, b1, rfl, rfl, rfl⟩ (List.Sublist.refl _) (by simp)
theorem mac_begin1 {φ : Frag} {b k : Nat} {x : St3} {key : List UInt8} (hsh : ShaG φ) (hr : x.rest.length < 64) (hn : x.n ≤ 1099511627000) : Spec Tryd.prog 123 #[ptr b, ptr k] [stR b x, cel k 9 [str (macKey key)]] [φ] (Val (str (macOut key x))) := by
  refine Spec.body (args := [ptr b, ptr k]) (n := 11) Tryd.func123 rfl Tryd.ntmps123 (by simp) fun w0 hw0 => ?_
  refine W.seq ?_
  refine W.region ?_
  refine .op (.y (y_assign rfl) ?_)
  refine .nil ?_
  refine W.seq ?_
  refine W.draw F.mixed (true, [([], []), ([], []), ([0, 1, 1], [0, 1]), ([], []), ([3, 2], [3]), ([2, 4], [2, 4]), ([5, 4], [5]), ([6, 6, 0, 1, 2, 3, 4, 5, 6], [6])]) [] (by kernel_rfl) _ _ (Incl.refl _ _) ?_
  refine .take 0 rfl (by decide) (y_load 1 rfl rfl rfl F.sc9) ?_
  refine .takeP 3 rfl (by decide) (y_move rfl) ?_
  refine .one 1 (by decide) rfl (o_callV (strings_Repeat (x := 92) (c := 64) (by omega)) F.cal105 rfl rfl rfl (by simp) ⟨(by first | exact Incl.refl _ _ | exact ⟨by simp, by simp⟩), ?_⟩)
  refine .one 2 (by decide) rfl (o_callV (octet_Xor (a := macKey key) (b := List.replicate 64 92) (by rw [macKey_len]; omega)) F.cal122 rfl rfl rfl (by simp) ⟨(by first | exact Incl.refl _ _ | exact ⟨by simp, by simp⟩), ?_⟩)
  refine .one 4 (by decide) rfl (o_call1 0 (State_Sum (x := x) hsh.ks hr hn) rfl F.cal66 rfl rfl rfl (by simp) (fun v rs' cs' hv => ⟨(by obtain ⟨_, rfl, rfl⟩ := hv; exact Incl.refl _ _), ?_⟩))
  obtain ⟨rfl, rfl, rfl⟩ := hv
  refine .takeP 5 rfl (by decide) (y_cat rfl rfl (by simp [xorL_len, macKey_len, stSum_len])) ?_
  refine .one 6 (by decide) rfl (o_callV (sha_Sum hsh.ks hsh.bg (by simp [xorL_len, macKey_len, stSum_len])) F.cal31 rfl rfl rfl (by simp) ⟨(by first | exact Incl.refl _ _ | exact ⟨by simp, by simp⟩), ?_⟩)
  refine .takeP 7 rfl (by decide) (y_assign rfl) ?_
  refine .done (by decide) ?_
  refine W.ret ?_
  exact ret1 rfl rfl [] [] ⟨rfl, rfl, rfl⟩ (by simp) (by simp)
theorem macIn_rest (key : List UInt8) : (macIn key).rest.length < 64 := stWrite_rest _ _
theorem mac_of {φ φ2 : Frag} {v : Value} {key : List UInt8} {l : List (List UInt8)} (hsh : ShaG φ) (hv : Sl φ2 v 1 (strs l)) (hk : key.length ≤ 1000000000000) (hl : l.flatten.length ≤ 1000000000000) : Spec Tryd.prog 91 #[str key, v] [] [φ, φ2] (Val (str (hmac key l))) := by
  refine Spec.body (args := [str key, v]) (n := 27) Tryd.func91 rfl Tryd.ntmps91 (by simp) fun w0 hw0 => ?_
  have hll := hv.len
  rw [strs_len] at hll
  refine W.seq ?_
  refine W.region ?_
  refine .op (.y (y_assign rfl) ?_)
  refine .nil ?_
  refine W.seq ?_
  refine W.region ?_
  refine .op (.y (y_move rfl) ?_)
  refine .op (o_call (mac_begin hsh hk) F.cal106 rfl rfl rfl (by simp) (fun v rs' cs' hv => ?_))
  obtain ⟨b, k, rfl, rfl, rfl⟩ := hv
  refine .op (.y (y_move rfl) ?_)
  refine .op (.y (y_extract rfl rfl) ?_)
  refine .op (.y (y_extract rfl rfl) ?_)
  refine .op (.y (y_assign rfl) ?_)
  refine .op (.y (y_assign rfl) ?_)
  refine .nil ?_
  refine W.seq ?_
  refine W.seq ?_
  refine W.region ?_
  refine .op (.y (y_move rfl) ?_)
  refine .op (.y (y_lenS rfl hv Tryd.underlying26) ?_)
  rw [strs_len]
  refine .op (.y (y_move rfl) ?_)
  refine .nil ?_
  refine W.block ?_
  refine W.loopI (ι := Nat) (fun i => i ≤ l.length) (fun i => [(5, ptr b), (6, .func (.func 123) #[] #[ptr k]), (14, v), (15, .int .i64 (l.length : Int)), (16, .int .i64 (i : Int))]) (fun i => [stR b ((l.take i).foldl stWrite (macIn key)), cel k 9 [str (macKey key)]]) (fun i => [φ, φ2]) (fun i => l.length - i) 0 (by simp)
    ⟨rfl, ⟨rfl, rfl, rfl, rfl, rfl, trivial⟩, ⟨[], List.Perm.refl _⟩, by simp⟩ ?_
  rintro i hG
  try simp only at hG ⊢
  refine W.seq ?_
  refine W.region ?_
  refine .op (.y (y_lssN rfl rfl) ?_)
  refine .nil ?_
  refine W.seq ?_
  refine W.cond rfl (fun hc17 => ?_) (fun hc17 => ?_)
  ·
    try simp only [decide_eq_true_eq, decide_eq_false_iff_not, Bool.not_eq_true', Bool.not_eq_false', Int.ofNat_lt, Int.ofNat_le, Int.not_lt, Nat.not_lt, Int.not_le, Nat.not_le, Int.natCast_inj, ne_eq, Decidable.not_not] at hc17
    have hft := flat_take hc17
    have hn := fold_n (l.take i) (macIn key)
    rw [macIn_n] at hn
    refine W.skip ?_
    refine W.seq ?_
    refine W.block ?_
    refine W.seq ?_
    refine W.region ?_
    refine .op (.yx (y_indexSN rfl hv rfl Tryd.underlying26 F.sz9 (strs_get hc17)) (fun v18 hv18 => ?_))
    refine .op (.y (y_loadP rfl (by assumption) rfl (by simp) F.sc9) ?_)
    refine .op (.y (y_assign rfl) ?_)
    refine .nil ?_
    refine W.region ?_
    refine .op (.y (y_move rfl) ?_)
    refine .op (.y (y_move rfl) ?_)
    refine .op (o_call1 0 (State_Write (x := (l.take i).foldl stWrite (macIn key)) (s := l.getD i []) hsh.ks (fold_rest _ _ (macIn_rest key)) (by omega)) rfl F.cal65 rfl rfl rfl (by simp) (fun v rs' cs' hv => ?_))
    obtain ⟨rfl, rfl, rfl⟩ := hv
    refine .nil ?_
    refine W.region ?_
    refine .op (.y (y_addI rfl rfl (by omega)) ?_)
    refine .op (.y (y_move rfl) ?_)
    refine .nil ?_
    exact ⟨i + 1, by first | omega | (simp only; omega), by first | omega | (simp only; omega), rfl, ⟨rfl, rfl, rfl, rfl, rfl, trivial⟩, by rw [take_getD hc17 [], List.foldl_append]; exact ⟨[], List.Perm.refl _⟩, by simp⟩
  ·
    try simp only [decide_eq_true_eq, decide_eq_false_iff_not, Bool.not_eq_true', Bool.not_eq_false', Int.ofNat_lt, Int.ofNat_le, Int.not_lt, Nat.not_lt, Int.not_le, Nat.not_le, Int.natCast_inj, ne_eq, Decidable.not_not] at hc17
    refine W.exit ?_
    have hi' : i = l.length := by omega
    subst hi'
    rw [List.take_length]
    have hn := fold_n l (macIn key)
    rw [macIn_n] at hn
    refine W.seq ?_
    refine W.region ?_
    refine .op (.y (y_move rfl) ?_)
    refine .op (.y (y_move rfl) ?_)
    refine .op (o_callVr (rest := []) (mac_begin1 (x := l.foldl stWrite (macIn key)) (key := key) hsh (fold_rest _ _ (macIn_rest key)) (by omega)) F.cal123 rfl rfl rfl (List.Perm.refl _) (by simp) ?_)
    refine .op (.y (y_assign rfl) ?_)
    refine .nil ?_
    refine W.ret ?_
    exact ret1 rfl rfl [] [] ⟨rfl, rfl, rfl⟩ (by simp) (by simp)
theorem mac_Extract {φ : Frag} {key s : List UInt8} (hsh : ShaG φ) (hk : key.length ≤ 1000000000000) (hl : s.length ≤ 1000000000000) : Spec Tryd.prog 67 #[str key, str s] [] [φ] (Val (str (hmac key [s]))) := by
  refine Spec.body (args := [str key, str s]) (n := 9) Tryd.func67 rfl Tryd.ntmps67 (by simp) fun w0 hw0 => ?_
  refine W.seq ?_
  refine W.region ?_
  refine .op (.y (y_assign rfl) ?_)
  refine .nil ?_
  refine W.seq ?_
  refine W.region ?_
  refine .op (.y (y_move rfl) ?_)
  refine .op (.y (y_move rfl) ?_)
  refine .op (o_buildD1 _ _ Tryd.underlying26 F.ze9 rfl rfl rfl rfl rfl rfl (by omega) (fun gb7 hgb7 => ?_))
  refine WL.freezeRow 0 rfl fun φ2 hv => ?_
  refine .op (o_callV (mac_of (l := [s]) hsh hv hk (by simpa using hl)) F.cal91 rfl rfl rfl (by simp) ?_)
  refine .op (.y (y_assign rfl) ?_)
  refine .nil ?_
  refine W.ret ?_
  exact ret1 rfl rfl [] [] ⟨rfl, rfl, rfl⟩ (by simp) (by simp)

/-! ### Expand -/
/-- T1, T2 and so on. -/
def tK (key info : List UInt8) : Nat → List UInt8
  | 0 => []
  | i + 1 => hmac key [tK key info i, info, [UInt8.ofNat (i + 1)]]
theorem tK_len (key info : List UInt8) (i : Nat) : (tK key info (i + 1)).length = 32 := hmac_len _ _
def tL (key info : List UInt8) (n : Nat) : List UInt8 := ((List.range n).map fun i => tK key info (i + 1)).flatten
theorem tL_succ (key info : List UInt8) (n : Nat) : tL key info (n + 1) = tL key info n ++ tK key info (n + 1) := by
  simp [tL, List.range_succ]
theorem tL_len (key info : List UInt8) : ∀ n, (tL key info n).length = 32 * n
  | 0 => rfl
  | n + 1 => by
    rw [tL_succ, List.length_append, tL_len key info n, tK_len]
    omega
theorem byte_of {i : Nat} (h : i < 256) : Value.int .u8 (IntKind.u8.wrap (i : Int)) = byte (UInt8.ofNat i) := by
  rw [byte_ofNat i h, IntKind.wrap_u8]
  congr 1
  omega
theorem mac_parts {key info : List UInt8} : Spec Tryd.prog 124 #[str key, str info] [] [] (RetP fun v rs cs => ∃ b c, v = .func (.func 130) #[] #[ptr b, ptr c] ∧ rs = [cel c 9 [str info], cel b 9 [str key]] ∧ cs = []) := by
  refine Spec.body (args := [str key, str info]) (n := 6) Tryd.func124 rfl Tryd.ntmps124 (by simp) fun w0 hw0 => ?_
  refine W.seq ?_
  refine W.region ?_
  refine .op (o_box1 rfl rfl (fun b2 hb2 => ?_))
  refine .op (o_box1 rfl rfl (fun b3 hb3 => ?_))
  refine .op (.y (y_assign rfl) ?_)
  refine .nil ?_
  refine W.seq ?_
  refine W.region ?_
  refine .op (.y (y_makeFunc rfl rfl) ?_)
  refine .op (.y (y_assign rfl) ?_)
  refine .nil ?_
  refine W.ret ?_
  exact ret1 rfl rfl [cel b3 9 [str info], cel b2 9 [str key]] [] ⟨_, rfl, b2, b3, rfl, rfl, rfl⟩ (List.Sublist.refl _) (by simp)
theorem mac_parts1 {φ : Frag} {l b c m : Nat} {r : Loop} {jj : Code} {key info : List UInt8} {J : Nat → List Res → Prop} {q0 : List Res} (hsh : ShaG φ) (hk : key.length ≤ 1000000000000) (hi : info.length ≤ 100000000000) (hm : m < 255) (h0 : J 0 q0) (hy : ∀ i, i < m → ∀ q, J i q → YSpec Tryd.prog l #[str (tK key info (i + 1))] (.blk l (.loop r) :: q) [φ] (RetP fun v rs' cs' => v = .bool true ∧ (∃ q', J (i + 1) q' ∧ rs' = .blk l (.loop r) :: q') ∧ cs' = []))
  (hz : ∀ q, J m q → YSpec Tryd.prog l #[str (tK key info (m + 1))] (.blk l (.loop r) :: q) [φ] (RetP fun v rs' cs' => v = .bool false ∧ (∃ q', J m q' ∧ rs' = .blk l (.loop { r with state := .done, pending := some jj }) :: q') ∧ cs' = [])) : Spec Tryd.prog 130 #[.func (.yield l) #[] #[], ptr b, ptr c] (.blk l (.loop r) :: cel b 9 [str key] :: cel c 9 [str info] :: q0) [φ] (RetP fun v rs' cs' => v = .tuple #[] ∧ (∃ q', J m q' ∧ rs' = .blk l (.loop { r with state := .done, pending := some jj }) :: q') ∧ cs' = []) := by
  refine Spec.body (args := [.func (.yield l) #[] #[], ptr b, ptr c]) (n := 23) Tryd.func130 rfl Tryd.ntmps130 (by simp) fun w0 hw0 => ?_
  refine W.seq ?_
  refine W.region ?_
  refine .op (.y (y_assign rfl) ?_)
  refine .nil ?_
  refine W.seq ?_
  refine W.region ?_
  refine .op (.y (y_assign rfl) ?_)
  refine .nil ?_
  refine W.block ?_
  refine W.loopI (ι := Nat × List Res) (fun ⟨i, q⟩ => i ≤ m ∧ J i q) (fun ⟨i, q⟩ => [(0, .func (.yield l) #[] #[]), (1, ptr b), (2, ptr c), (4, str (tK key info i)), (5, .int .i64 ((i + 1 : Nat) : Int))]) (fun ⟨i, q⟩ => .blk l (.loop r) :: cel b 9 [str key] :: cel c 9 [str info] :: q) (fun ⟨i, q⟩ => [φ]) (fun ⟨i, q⟩ => m - i) (0, q0) (⟨by omega, h0⟩)
    ⟨rfl, ⟨rfl, rfl, rfl, rfl, rfl, trivial⟩, ⟨[], by simp⟩, by simp⟩ ?_
  rintro ⟨i, q⟩ hG
  try simp only at hG ⊢
  obtain ⟨him, hJ⟩ := hG
  refine W.seq ?_
  refine W.seq ?_
  refine W.region ?_
  refine .op (.y (y_move rfl) ?_)
  refine .op (.y (y_leqN (j := 255) rfl rfl) ?_)
  rw [show decide (i + 1 ≤ 255) = true from decide_eq_true (by omega)]
  refine .nil ?_
  refine W.condT (rfl) ?_
  refine W.skip ?_
  refine W.seq ?_
  refine W.block ?_
  refine W.seq ?_
  refine W.region ?_
  refine .op (.y (y_load 1 rfl rfl rfl F.sc9) ?_)
  refine .op (.y (y_move rfl) ?_)
  refine .op (.y (y_load 2 rfl rfl rfl F.sc9) ?_)
  refine .op (.y (y_move rfl) ?_)
  refine .op (.y (y_conv rfl Tryd.underlying3 Tryd.underlying5) ?_)
  rw [byte_of (show i + 1 < 256 by omega)]
  refine .op (o_buildD1 [byte (UInt8.ofNat (i + 1))] _ Tryd.underlying76 F.ze5 rfl rfl rfl rfl rfl rfl (by omega) (fun gb15 hgb15 => ?_))
  refine WL.freezeRow 0 rfl fun φ3 hv3 => ?_
  refine .op (.y (y_bytesS (l := [UInt8.ofNat (i + 1)]) rfl (by simp) hv3 Tryd.underlying76 Tryd.underlying5 Tryd.underlying9) ?_)
  refine .op (o_buildD1 _ _ Tryd.underlying26 F.ze9 rfl rfl rfl rfl rfl rfl (by omega) (fun gb17 hgb17 => ?_))
  refine WL.freezeRow 0 rfl fun φ4 hv4 => ?_
  refine .op (o_callV (mac_of (l := [tK key info i, info, [UInt8.ofNat (i + 1)]]) hsh hv4 hk (by have : (tK key info i).length ≤ 32 := (by cases i with | zero => simp [tK] | succ i => rw [tK_len]; omega); simp; omega)) F.cal91 rfl rfl rfl (by simp) ?_)
  refine .op (.y (y_assign rfl) ?_)
  refine .nil ?_
  refine W.seq ?_
  refine W.region ?_
  refine .op (.y (y_move rfl) ?_)
  refine .op (.y (y_move rfl) ?_)
  have hyy : YSpec Tryd.prog l #[str (tK key info (i + 1))] (.blk l (.loop r) :: q) [φ] (RetP fun v rs' cs' => ∃ q' r2, rs' = .blk l (.loop r2) :: q' ∧ cs' = [] ∧ v = .bool (decide (i < m)) ∧ (i < m → J (i + 1) q' ∧ r2 = r) ∧ (i = m → J m q' ∧ r2 = { r with state := .done, pending := some jj })) := by
      by_cases h : i < m
      · exact (hy i h q hJ).mono fun e rs' cs' ⟨v, he, hv, ⟨q', hq, hr⟩, hc⟩ => ⟨v, he, q', r, hr, hc, by rw [hv, decide_eq_true h], fun _ => ⟨hq, rfl⟩, fun h2 => by omega⟩
      · obtain rfl : i = m := by omega
        exact (hz q hJ).mono fun e rs' cs' ⟨v, he, hv, ⟨q', hq, hr⟩, hc⟩ => ⟨v, he, q', _, hr, hc, by rw [hv, decide_eq_false h], fun h2 => by omega, fun _ => ⟨hq, rfl⟩⟩
  refine .op (o_yield hyy rfl rfl (rest := [cel b 9 [str key], cel c 9 [str info]]) (List.Perm.cons _ (List.perm_append_comm (l₁ := [_, _]))) (by simp) ?_ (by simp))
  rintro e rs' cs' ⟨v, rfl, q', r2, rfl, rfl, rfl, hq1, hq2⟩
  refine .op (.y (y_not rfl) ?_)
  refine .nil ?_
  refine W.cond rfl (fun hc22 => ?_) (fun hc22 => ?_)
  ·
    try simp only [decide_eq_true_eq, decide_eq_false_iff_not, Bool.not_eq_true', Bool.not_eq_false', Int.ofNat_lt, Int.ofNat_le, Int.not_lt, Nat.not_lt, Int.not_le, Nat.not_le, Int.natCast_inj, ne_eq, Decidable.not_not] at hc22
    obtain rfl : i = m := by omega
    obtain ⟨hq, rfl⟩ := hq2 rfl
    refine W.ret ?_
    exact ret0 rfl (.blk l (.loop { r with state := .done, pending := some jj }) :: q') [] ⟨_, rfl, rfl, ⟨q', hq, rfl⟩, rfl⟩ (List.sublist_append_left _ _) (by simp)
  ·
    try simp only [decide_eq_true_eq, decide_eq_false_iff_not, Bool.not_eq_true', Bool.not_eq_false', Int.ofNat_lt, Int.ofNat_le, Int.not_lt, Nat.not_lt, Int.not_le, Nat.not_le, Int.natCast_inj, ne_eq, Decidable.not_not] at hc22
    obtain ⟨hq, rfl⟩ := hq1 hc22
    refine W.skip ?_
    refine W.region ?_
    refine .op (.y (y_move rfl) ?_)
    refine .op (.y (y_addN (j := 1) rfl rfl (by omega)) ?_)
    refine .op (.y (y_assign rfl) ?_)
    refine .nil ?_
    exact ⟨(i + 1, q'), ⟨by omega, hq⟩, by first | omega | (simp only; omega), rfl, ⟨rfl, rfl, rfl, rfl, rfl, trivial⟩, ⟨[], by rw [List.append_nil]; exact List.Perm.cons _ (List.perm_append_comm (l₂ := [_, _]))⟩, by simp⟩
/-! ### Expand, Info, Derive -/
def infoE (s : List UInt8) : List UInt8 := bigL (IntKind.u64.wrap (s.length : Int)) 4 ++ s
def infoK (l : List (List UInt8)) : List UInt8 := (l.map infoE).flatten
theorem infoK_take {l : List (List UInt8)} {i : Nat} (h : i < l.length) : infoK (l.take (i + 1)) = infoK (l.take i) ++ infoE (l.getD i []) := by
  rw [take_getD h []]
  simp [infoK]
theorem infoK_le {l : List (List UInt8)} {i : Nat} (h : i < l.length) : (infoK (l.take i)).length + (infoE (l.getD i [])).length ≤ (infoK l).length := by
  have h1 := flat_take (l := l.map infoE) (i := i) (by simpa using h)
  have h2 : (l.map infoE).getD i [] = infoE (l.getD i []) := by simp [List.getD_eq_getElem?_getD, List.getElem?_eq_getElem h]
  rw [h2, ← List.map_take] at h1
  exact h1
theorem infoE_len (s : List UInt8) : (infoE s).length = s.length + 4 := by
  simp only [infoE, List.length_append, bigL_len]
  omega
/-- So many rounds. -/
def rounds32 (n : Nat) : Nat := (n + 31) / 32
theorem mac_Expand {φ : Frag} {key info : List UInt8} {n : Nat} (hsh : ShaG φ) (hk : key.length ≤ 1000000000000) (hi : info.length ≤ 100000000000) (hn : n ≤ 8128) : Spec Tryd.prog 108 #[str key, str info, .int .i64 (n : Int)] [] [φ] (Val (.tuple #[str ((tL key info (rounds32 n)).take n), .int .i64 0])) := by
  refine Spec.body (args := [str key, str info, .int .i64 (n : Int)]) (n := 28) Tryd.func108 rfl Tryd.ntmps108 (by simp) fun w0 hw0 => ?_
  have hm : rounds32 n < 255 := (by unfold rounds32; omega)
  refine W.seq ?_
  refine W.region ?_
  refine .op (o_box1 rfl rfl (fun b5 hb5 => ?_))
  refine .op (.y (y_assign rfl) ?_)
  refine .op (.y (y_assign rfl) ?_)
  refine .nil ?_
  refine W.seq ?_
  refine W.seq ?_
  refine W.region ?_
  refine .op (.y (y_load 0 rfl rfl rfl F.sc3) ?_)
  refine .op (.y (y_lssN (j := 0) rfl rfl) ?_)
  rw [show decide (n < 0) = false from by simp]
  refine .op (.y (y_move rfl) ?_)
  refine .op (.y (y_load 0 rfl rfl rfl F.sc3) ?_)
  refine .op (.y (y_gtrN (j := 8160) rfl rfl) ?_)
  rw [show decide (8160 < n) = false from decide_eq_false (by omega)]
  refine .op (.y (y_pick rfl rfl) ?_)
  refine .nil ?_
  refine W.condF (rfl) ?_
  refine W.skip ?_
  refine W.seq ?_
  refine W.region ?_
  refine .op (o_allocC [(.pointer none), (.slice none 0 0)] F.ze118 rfl (fun b8 hb8 => ?_))
  refine .nil ?_
  refine W.seq ?_
  refine W.seq ?_
  refine W.nilBuf 5 ?_
  refine W.region ?_
  refine .op (.y (y_move rfl) ?_)
  refine .op (.y (y_move rfl) ?_)
  refine .op (o_call mac_parts F.cal124 rfl rfl rfl (by simp) (fun v rs' cs' hv => ?_))
  obtain ⟨b, c, rfl, rfl, rfl⟩ := hv
  refine .nil ?_
  refine W.block ?_
  refine W.rangeFunc rfl F.cal130 (fun l d fn tmps hag hl hd => ⟨_, [], [φ], _, ((perm_at (i := 1) rfl).trans (List.Perm.cons _ ((perm_at (i := 0) rfl).trans (List.Perm.cons _ ((perm_at (i := 2) rfl).trans (List.Perm.cons _ ((perm_at (i := 1) rfl).trans (List.Perm.cons _ ((perm_at (i := 0) rfl).trans (List.Perm.cons _ (List.Perm.refl _))))))))))), by simp, mac_parts1 (m := rounds32 n) (jj := .exit 0) (J := fun i q => ∃ q2, q = cel b5 3 [.int .i64 (n : Int)] :: q2 ∧ bld b8 118 [] (tL key info i) q2) hsh hk hi hm ⟨_, rfl, .pointer none, .slice none 0 0, .inl rfl, rfl, rfl⟩ (fun i him q hq => ?_) (fun q hq => ?_), fun e rs' cs' hp => ?_⟩)
  ·
    obtain ⟨q2, rfl, hb⟩ := hq
    have hlt : 32 * i < n := (by unfold rounds32 at him; omega)
    refine YSpec.round (n := 28) rfl rfl hag (by simp) fun w1 hw1 => ?_
    refine W.region ?_
    refine .op (.y (y_assign rfl) ?_)
    refine .nil ?_
    refine ⟨_, List.Perm.refl _, ?_⟩
    refine W.block ?_
    refine W.seq ?_
    refine W.seq ?_
    refine W.draw F.mixed (true, [([], []), ([], []), ([0, 1], [0, 1])]) [] (by kernel_rfl) [cel b5 3 [.int .i64 (n : Int)]] [] ⟨by simp, by simp⟩ ?_
    refine .take 1 rfl (by decide) (y_load 0 rfl rfl rfl F.sc3) ?_
    refine .one 0 (by decide) rfl (o_callR (rs := q2) (rest := [_, _]) (Builder_Len hb) F.cal121 rfl rfl rfl (List.perm_append_comm (l₁ := [_, _])) (by simp) (fun v rs' cs' hv => ⟨(⟨by simp, by simp⟩), ?_⟩))
    obtain ⟨rfl, rfl, hb⟩ := hv
    refine .takeP 2 rfl (by decide) (y_geqN rfl rfl) ?_
    rw [tL_len, show decide (n ≤ 32 * i) = false from decide_eq_false (by omega)]
    refine .done (by decide) ?_
    refine W.condF (rfl) ?_
    refine W.skip ?_
    refine W.region ?_
    refine .op (.y (y_move rfl) ?_)
    refine .op (o_callR (rs := rs') (rest := [_, _]) (Builder_WriteString (a := tK key info (i + 1)) hb hasB_builder (by rw [tL_len, tK_len]; omega)) F.cal96 rfl rfl rfl (List.Perm.refl _) (by simp) (fun v rs2 cs' hv => ?_))
    obtain ⟨rfl, rfl, hb2⟩ := hv
    rw [← tL_succ] at hb2
    refine .nil ?_
    exact ⟨cel b5 3 [.int .i64 (n : Int)] :: rs2, [], [], by rw [List.append_nil]; exact List.perm_append_comm (l₂ := [_, _]), by simp, _, rfl, rfl, ⟨_, ⟨_, rfl, hb2⟩, rfl⟩, rfl⟩
  ·
    obtain ⟨q2, rfl, hb⟩ := hq
    have hge : n ≤ 32 * rounds32 n := (by unfold rounds32; omega)
    refine YSpec.round (n := 28) rfl rfl hag (by simp) fun w1 hw1 => ?_
    refine W.region ?_
    refine .op (.y (y_assign rfl) ?_)
    refine .nil ?_
    refine ⟨_, List.Perm.refl _, ?_⟩
    refine W.block ?_
    refine W.seq ?_
    refine W.seq ?_
    refine W.draw F.mixed (true, [([], []), ([], []), ([0, 1], [0, 1])]) [] (by kernel_rfl) [cel b5 3 [.int .i64 (n : Int)]] [] ⟨by simp, by simp⟩ ?_
    refine .take 1 rfl (by decide) (y_load 0 rfl rfl rfl F.sc3) ?_
    refine .one 0 (by decide) rfl (o_callR (rs := q2) (rest := [_, _]) (Builder_Len hb) F.cal121 rfl rfl rfl (List.perm_append_comm (l₁ := [_, _])) (by simp) (fun v rs' cs' hv => ⟨(⟨by simp, by simp⟩), ?_⟩))
    obtain ⟨rfl, rfl, hb⟩ := hv
    refine .takeP 2 rfl (by decide) (y_geqN rfl rfl) ?_
    rw [tL_len, show decide (n ≤ 32 * rounds32 n) = true from decide_eq_true hge]
    refine .done (by decide) ?_
    refine W.condT (rfl) ?_
    refine W.exit ?_
    exact ⟨cel b5 3 [.int .i64 (n : Int)] :: rs', [], [], by rw [List.append_nil]; exact List.perm_append_comm (l₂ := [_, _]), by simp, _, rfl, rfl, ⟨_, ⟨_, rfl, hb⟩, rfl⟩, rfl⟩
  ·
    obtain ⟨_, rfl, rfl, ⟨q', ⟨q2, rfl, hb⟩, rfl⟩, rfl⟩ := hp
    refine ⟨_, _, List.Perm.refl _, by simp, ?_⟩
    refine W.exit ?_
    refine W.seq ?_
    refine W.draw F.mixed (true, [([], []), ([], []), ([0, 1], [0, 1]), ([2, 0, 0, 1, 2], [2]), ([3, 0, 1, 2, 3], [])]) [] (by kernel_rfl) [cel b5 3 [.int .i64 (n : Int)]] [] ⟨by simp, by simp⟩ ?_
    refine .take 1 rfl (by decide) (y_load 0 rfl rfl rfl F.sc3) ?_
    refine .one 0 (by decide) rfl (o_callR (rs := q2) (rest := [_, _]) (Builder_String hb) F.cal73 rfl rfl rfl (by rw [List.append_nil]; exact List.perm_append_comm (l₁ := [_, _])) (by simp) (fun v rs' cs' hv => ⟨(⟨by simp, by simp⟩), ?_⟩))
    obtain ⟨rfl, rfl, hb⟩ := hv
    refine .takeP 2 rfl (by decide) (y_sslice (i := 0) (j := n) rfl Tryd.underlying9 rfl rfl (by omega) (by rw [tL_len]; unfold rounds32; omega)) ?_
    refine .takeP 3 rfl (by decide) (y_assign rfl) ?_
    refine .takeP 4 rfl (by decide) (y_assign rfl) ?_
    refine .done (by decide) ?_
    refine W.ret ?_
    refine RetQ.marked (D := [d]) (rest := cel b5 3 [.int .i64 (n : Int)] :: rs') (List.perm_append_comm (l₂ := [_, _])) ?_
    exact ret2 rfl rfl rfl [] [] ⟨rfl, rfl, rfl⟩ (by simp) (by simp)
theorem mac_Info {φ : Frag} {v : Value} {l : List (List UInt8)} (hv : Sl φ v 1 (strs l)) (hl : (infoK l).length ≤ 100000000000) : Spec Tryd.prog 109 #[v] [] [φ] (Val (str (infoK l))) := by
  refine Spec.body (args := [v]) (n := 21) Tryd.func109 rfl Tryd.ntmps109 (by simp) fun w0 hw0 => ?_
  have hll := hv.len
  rw [strs_len] at hll
  refine W.seq ?_
  refine W.region ?_
  refine .op (.y (y_assign rfl) ?_)
  refine .nil ?_
  refine W.seq ?_
  refine W.region ?_
  refine .op (o_allocC [(.pointer none), (.slice none 0 0)] F.ze118 rfl (fun b3 hb3 => ?_))
  refine .nil ?_
  refine W.seq ?_
  refine W.seq ?_
  refine W.nilBuf 5 ?_
  refine W.region ?_
  refine .op (.y (y_move rfl) ?_)
  refine .op (.y (y_lenS rfl hv Tryd.underlying26) ?_)
  rw [strs_len]
  refine .op (.y (y_move rfl) ?_)
  refine .nil ?_
  refine W.block ?_
  refine W.loopI (ι := Nat × List Res) (fun ⟨i, q⟩ => i ≤ l.length ∧ bld b3 118 [] (infoK (l.take i)) q) (fun ⟨i, q⟩ => [(3, ptr b3), (6, v), (7, .int .i64 (l.length : Int)), (8, .int .i64 (i : Int))]) (fun ⟨i, q⟩ => q) (fun ⟨i, q⟩ => [φ]) (fun ⟨i, q⟩ => l.length - i) (0, [_, _]) (⟨by omega, .pointer none, .slice none 0 0, .inl rfl, rfl, rfl⟩)
    ⟨rfl, ⟨rfl, rfl, rfl, rfl, trivial⟩, at2 1 0 rfl rfl, by simp⟩ ?_
  rintro ⟨i, q⟩ hG
  try simp only at hG ⊢
  obtain ⟨him, hb⟩ := hG
  refine W.seq ?_
  refine W.region ?_
  refine .op (.y (y_lssN rfl rfl) ?_)
  refine .nil ?_
  refine W.seq ?_
  refine W.cond rfl (fun hc9 => ?_) (fun hc9 => ?_)
  ·
    try simp only [decide_eq_true_eq, decide_eq_false_iff_not, Bool.not_eq_true', Bool.not_eq_false', Int.ofNat_lt, Int.ofNat_le, Int.not_lt, Nat.not_lt, Int.not_le, Nat.not_le, Int.natCast_inj, ne_eq, Decidable.not_not] at hc9
    have hle := infoK_le hc9
    rw [infoE_len] at hle
    refine W.skip ?_
    refine W.seq ?_
    refine W.block ?_
    refine W.seq ?_
    refine W.region ?_
    refine .op (.yx (y_indexSN rfl hv rfl Tryd.underlying26 F.sz9 (strs_get hc9)) (fun v10 hv10 => ?_))
    refine .op (.y (y_loadP rfl (by assumption) rfl (by simp) F.sc9) ?_)
    refine .op (.y (y_assign rfl) ?_)
    refine .nil ?_
    refine W.seq ?_
    refine W.region ?_
    refine .op (.y (y_move rfl) ?_)
    refine .op (.y (y_slen rfl Tryd.underlying9) ?_)
    refine .op (.y (y_conv rfl Tryd.underlying3 Tryd.underlying22) ?_)
    refine .op (o_callV (octet_Big (wrap_u64_nonneg _) (by decide)) F.cal39 rfl rfl rfl (by simp) ?_)
    rw [show bigN 4 = 4 from rfl]
    refine .op (o_callR (rs := q) (rest := []) (Builder_WriteString hb hasB_builder (by rw [bigL_len]; omega)) F.cal96 rfl rfl rfl (by simp) (by simp) (fun v rs' cs' hv => ?_))
    obtain ⟨rfl, rfl, hb⟩ := hv
    refine .nil ?_
    refine W.region ?_
    refine .op (.y (y_move rfl) ?_)
    refine .op (o_callR (rs := rs') (rest := []) (Builder_WriteString hb hasB_builder (by rw [List.length_append, bigL_len]; omega)) F.cal96 rfl rfl rfl (by simp) (by simp) (fun v rs2 cs' hv => ?_))
    obtain ⟨rfl, rfl, hb⟩ := hv
    refine .nil ?_
    refine W.region ?_
    refine .op (.y (y_addN (j := 1) rfl rfl (by omega)) ?_)
    refine .op (.y (y_move rfl) ?_)
    refine .nil ?_
    rw [List.append_assoc, show bigL (IntKind.u64.wrap ((l.getD i []).length : Int)) 4 ++ l.getD i [] = infoE (l.getD i []) from rfl, ← infoK_take hc9] at hb
    exact ⟨(i + 1, rs2), ⟨by omega, hb⟩, by first | omega | (simp only; omega), rfl, ⟨rfl, rfl, rfl, rfl, trivial⟩, ⟨[], List.Perm.refl _⟩, by simp⟩
  ·
    try simp only [decide_eq_true_eq, decide_eq_false_iff_not, Bool.not_eq_true', Bool.not_eq_false', Int.ofNat_lt, Int.ofNat_le, Int.not_lt, Nat.not_lt, Int.not_le, Nat.not_le, Int.natCast_inj, ne_eq, Decidable.not_not] at hc9
    refine W.exit ?_
    obtain rfl : i = l.length := by omega
    rw [List.take_length] at hb
    refine W.seq ?_
    refine W.region ?_
    refine .op (o_callR (rs := q) (rest := []) (Builder_String hb) F.cal73 rfl rfl rfl (by simp) (by simp) (fun v rs' cs' hv => ?_))
    obtain ⟨rfl, rfl, hb⟩ := hv
    refine .op (.y (y_assign rfl) ?_)
    refine .nil ?_
    refine W.ret ?_
    exact ret1 rfl rfl [] [] ⟨rfl, rfl, rfl⟩ (by simp) (by simp)
theorem mac_Derive {φ φ2 : Frag} {v : Value} {key : List UInt8} {l : List (List UInt8)} {n : Nat} (hsh : ShaG φ) (hv : Sl φ2 v 1 (strs l)) (hk : key.length ≤ 1000000000000) (hl : (infoK l).length ≤ 100000000000) (hn : n ≤ 8128) : Spec Tryd.prog 93 #[str key, .int .i64 (n : Int), v] [] [φ, φ2] (Val (.tuple #[str ((tL key (infoK l) (rounds32 n)).take n), .int .i64 0])) := by
  refine Spec.body (args := [str key, .int .i64 (n : Int), v]) (n := 15) Tryd.func93 rfl Tryd.ntmps93 (by simp) fun w0 hw0 => ?_
  refine W.seq ?_
  refine W.region ?_
  refine .op (.y (y_assign rfl) ?_)
  refine .op (.y (y_assign rfl) ?_)
  refine .nil ?_
  refine W.seq ?_
  refine W.region ?_
  refine .op (.y (y_move rfl) ?_)
  refine .op (.y (y_move rfl) ?_)
  refine .op (o_callV (mac_Info hv hl) F.cal109 rfl rfl rfl (by simp) ?_)
  refine .op (.y (y_move rfl) ?_)
  refine .op (o_callV (mac_Expand (info := infoK l) hsh hk hl hn) F.cal108 rfl rfl rfl (by simp) ?_)
  refine .op (.y (y_extract rfl rfl) ?_)
  refine .op (.y (y_extract rfl rfl) ?_)
  refine .op (.y (y_assign rfl) ?_)
  refine .op (.y (y_assign rfl) ?_)
  refine .nil ?_
  refine W.ret ?_
  exact ret2 rfl rfl rfl [] [] ⟨rfl, rfl, rfl⟩ (by simp) (by simp)
end Go.Proofs.Sep
