/- Package sha: sums. -/
import Derived.Test.YtpnhedlciamegaaDoorSha
import Derived.Test.YtpnhedlciamegaaDoorLib
set_option linter.all false
set_option linter.unusedSimpArgs false
set_option linter.unnecessarySimpa false
set_option linter.deprecated false
set_option maxRecDepth 100000
set_option linter.unusedVariables false
namespace Go.Proofs.Sep
open Go Go.RowKit

structure St3 where
  h : S8
  rest : List UInt8
  n : Nat
@[reducible] def stCells (x : St3) : List Value := x.h.cells ++ [str x.rest, .int .i64 (x.n : Int)]
@[reducible] def stR (b : Nat) (x : St3) : Res := cel b 146 (stCells x)
def beginS : S8 := ⟨1779033703, 3144134277, 1013904242, 2773480762, 1359893119, 2600822924, 528734635, 1541459225⟩
def stNew : St3 := ⟨beginS, [], 0⟩
/-- Behind so many blocks of a text. -/
def blocksK (h : S8) (s : List UInt8) : Nat → S8
  | 0 => h
  | k + 1 => shaStep (blocksK h s k) ((s.drop (64 * k)).take 64)
def stWrite (x : St3) (s : List UInt8) : St3 := ⟨blocksK x.h (x.rest ++ s) ((x.rest ++ s).length / 64), (x.rest ++ s).drop (64 * ((x.rest ++ s).length / 64)), x.n + s.length⟩
theorem stWrite_rest (x : St3) (s : List UInt8) : (stWrite x s).rest.length < 64 := by
  simp only [stWrite, List.length_drop]
  omega

theorem sha_New {φ : Frag} (hb : Pt φ (ptr 0) (beginS.list.map u32)) : Spec Tryd.prog 64 #[] [] [φ] (RetP fun v rs cs => ∃ b, v = ptr b ∧ rs = [stR b stNew] ∧ cs = []) := by
  refine Spec.body (args := []) (n := 4) Tryd.func64 rfl Tryd.ntmps64 (by simp) fun w0 hw0 => ?_
  refine W.seq ?_
  refine W.region ?_
  refine .op (.y (y_assign rfl) ?_)
  refine .nil ?_
  refine W.seq ?_
  refine W.region ?_
  refine .op (.y (y_loadPA 8 rfl hb (by decide) (by simp) F.agg144) ?_)
  refine .op (.y (y_build (cs := (stCells stNew).toArray) F.ze146 F.pl146 rfl rfl) ?_)
  refine .op (o_box rfl (fun b3 hb3 => ?_))
  refine .op (.y (y_assign rfl) ?_)
  refine .nil ?_
  refine W.ret ?_
  exact ret1 rfl rfl [stR b3 stNew] [] ⟨_, rfl, b3, rfl, rfl, rfl⟩ (List.Sublist.refl _) (by simp)
theorem sha_blocks {s : List UInt8} : Spec Tryd.prog 87 #[str s] [] [] (RetP fun v rs cs => ∃ b, v = .func (.func 103) #[] #[ptr b] ∧ rs = [cel b 9 [str s]] ∧ cs = []) := by
  refine Spec.body (args := [str s]) (n := 4) Tryd.func87 rfl Tryd.ntmps87 (by simp) fun w0 hw0 => ?_
  refine W.seq ?_
  refine W.region ?_
  refine .op (o_box rfl (fun b1 hb1 => ?_))
  refine .op (.y (y_assign rfl) ?_)
  refine .nil ?_
  refine W.seq ?_
  refine W.region ?_
  refine .op (.y (y_makeFunc rfl rfl) ?_)
  refine .op (.y (y_assign rfl) ?_)
  refine .nil ?_
  refine W.ret ?_
  exact ret1 rfl rfl [cel b1 9 [str s]] [] ⟨_, rfl, b1, rfl, rfl, rfl⟩ (List.Sublist.refl _) (by simp)
theorem sha_blocks1 {l bs : Nat} {r : Loop} {s : List UInt8} {J : Nat → List Res} {cs : List Frag} (hy : ∀ i, 64 * i + 64 ≤ s.length → YSpec Tryd.prog l #[str ((s.drop (64 * i)).take 64), str (s.drop (64 * (i + 1)))] (.blk l (.loop r) :: J i) cs (RetP fun v rs' cs' => v = .bool true ∧ rs' = .blk l (.loop r) :: J (i + 1) ∧ cs' = [])) (hs : s.length ≤ 2199023255552) : Spec Tryd.prog 103 #[.func (.yield l) #[] #[], ptr bs] (.blk l (.loop r) :: cel bs 9 [str s] :: J 0) cs (RetP fun v rs' cs' => v = .tuple #[] ∧ rs' = .blk l (.loop r) :: J (s.length / 64) ∧ cs' = []) := by
  refine Spec.body (args := [.func (.yield l) #[] #[], ptr bs]) (n := 16) Tryd.func103 rfl Tryd.ntmps103 (by simp) fun w0 hw0 => ?_
  refine W.block ?_
  refine W.loopI (ι := Nat) (fun i => 64 * i ≤ s.length) (fun i => [(0, .func (.yield l) #[] #[]), (1, ptr bs)]) (fun i => .blk l (.loop r) :: cel bs 9 [str (s.drop (64 * i))] :: J i) (fun i => cs) (fun i => s.length - 64 * i) 0 (by simp)
    ⟨rfl, ⟨rfl, rfl, trivial⟩, ⟨[], by simp⟩, by simp⟩ ?_
  rintro i hG
  try simp only at hG ⊢
  refine W.seq ?_
  refine W.seq ?_
  refine W.region ?_
  refine .op (.y (y_load 1 rfl rfl rfl F.sc9) ?_)
  refine .op (.y (y_slen rfl Tryd.underlying9) ?_)
  refine .op (.y (y_geqN (j := 64) rfl rfl) ?_)
  refine .nil ?_
  refine W.cond rfl (fun hc6 => ?_) (fun hc6 => ?_)
  ·
    try simp only [decide_eq_true_eq, decide_eq_false_iff_not, Bool.not_eq_true', Bool.not_eq_false', Int.ofNat_lt, Int.ofNat_le, Int.not_lt, Nat.not_lt, Int.not_le, Nat.not_le, Int.natCast_inj, ne_eq, Decidable.not_not] at hc6
    have hlt : 64 * i + 64 ≤ s.length := by simp only [List.length_drop] at hc6; omega
    refine W.skip ?_
    refine W.block ?_
    refine W.seq ?_
    refine W.region ?_
    refine .op (.y (y_load 1 rfl rfl rfl F.sc9) ?_)
    refine .op (.y (y_sslice (j := 64) rfl Tryd.underlying9 rfl rfl (by omega) (by omega)) ?_)
    refine .op (.y (y_assign rfl) ?_)
    refine .nil ?_
    refine W.seq ?_
    refine W.region ?_
    refine .op (.y (y_load 1 rfl rfl rfl F.sc9) ?_)
    refine .op (.y (y_sslice (i := 64) (j := (s.drop (64 * i)).length) rfl Tryd.underlying9 rfl rfl (by simp; omega) (by omega)) ?_)
    rw [show ((s.drop (64 * i)).drop 64).take ((s.drop (64 * i)).length - 64) = s.drop (64 * (i + 1)) from by rw [List.take_of_length_le (by simp; omega), List.drop_drop]; rfl]
    refine .op (o_store 1 rfl rfl rfl rfl (by simp) F.sz9 ?_)
    refine .nil ?_
    refine W.seq ?_
    refine W.region ?_
    refine .op (.y (y_move rfl) ?_)
    refine .op (.y (y_move rfl) ?_)
    refine .op (.y (y_load 1 rfl rfl rfl F.sc9) ?_)
    refine .op (o_yield (hy i hlt) rfl rfl (rest := [cel bs 9 [str (s.drop (64 * (i + 1)))]]) (List.Perm.cons _ (List.perm_append_comm (l₁ := [_]))) (by simp) ?_ (by simp))
    rintro e rs' cs' ⟨v, rfl, rfl, rfl, rfl⟩
    refine .op (.y (y_not rfl) ?_)
    refine .nil ?_
    refine W.condF (rfl) ?_
    refine W.skip ?_
    exact ⟨i + 1, by first | omega | (simp only; omega), by first | omega | (simp only; omega), rfl, ⟨rfl, rfl, trivial⟩, ⟨[], by simpa using List.Perm.cons _ (List.perm_append_comm (l₂ := [_]))⟩, by simp⟩
  ·
    try simp only [decide_eq_true_eq, decide_eq_false_iff_not, Bool.not_eq_true', Bool.not_eq_false', Int.ofNat_lt, Int.ofNat_le, Int.not_lt, Nat.not_lt, Int.not_le, Nat.not_le, Int.natCast_inj, ne_eq, Decidable.not_not] at hc6
    refine W.exit ?_
    have hi' : i = s.length / 64 := by simp only [List.length_drop] at hc6; omega
    subst hi'
    exact end0 rfl (.blk l (.loop r) :: J (s.length / 64)) [] ⟨_, rfl, rfl, rfl, rfl⟩ (List.Sublist.cons_cons _ (List.sublist_cons_self _ _)) (by simp)
/-! ### Write -/
theorem blocksK_len (h : S8) (s : List UInt8) : True := trivial
theorem State_Write {φ : Frag} {b : Nat} {x : St3} {s : List UInt8} (hks : Pt φ (ptr 2) (ksL.map u32)) (hr : x.rest.length < 64) (hn : x.n + s.length ≤ 1099511627776) : Spec Tryd.prog 65 #[ptr b, str s] [stR b x] [φ] (RetP fun v rs cs => v = .tuple #[] ∧ rs = [stR b (stWrite x s)] ∧ cs = []) := by
  refine Spec.body (args := [ptr b, str s]) (n := 43) Tryd.func65 rfl Tryd.ntmps65 (by simp) fun w0 hw0 => ?_
  refine W.seq ?_
  refine W.region ?_
  refine .op (o_box rfl (fun b2 hb2 => ?_))
  refine .nil ?_
  refine W.seq ?_
  refine W.region ?_
  refine .op (.y (y_load 0 rfl rfl rfl F.sc109) ?_)
  refine .op (.y (y_nilCheck rfl) ?_)
  refine .op (.y (y_field rfl F.fld146_2) ?_)
  refine .op (.y (y_load 1 rfl rfl rfl F.sc3) ?_)
  refine .op (.y (y_move rfl) ?_)
  refine .op (.y (y_slen rfl Tryd.underlying9) ?_)
  refine .op (.y (y_addN rfl rfl (by omega)) ?_)
  refine .op (.y (y_nilCheck rfl) ?_)
  refine .op (.y (y_field rfl F.fld146_2) ?_)
  refine .op (o_store 1 rfl rfl rfl rfl (by simp) F.sz3 ?_)
  refine .nil ?_
  refine W.seq ?_
  refine W.region ?_
  refine .op (.y (y_load 0 rfl rfl rfl F.sc109) ?_)
  refine .op (.y (y_nilCheck rfl) ?_)
  refine .op (.y (y_field rfl F.fld146_1) ?_)
  refine .op (.y (y_load 1 rfl rfl rfl F.sc9) ?_)
  refine .op (.y (y_move rfl) ?_)
  refine .op (.y (y_cat rfl rfl (by omega)) ?_)
  refine .op (.y (y_nilCheck rfl) ?_)
  refine .op (.y (y_field rfl F.fld146_1) ?_)
  refine .op (o_store 1 rfl rfl rfl rfl (by simp) F.sz9 ?_)
  refine .nil ?_
  refine W.seq ?_
  refine W.region ?_
  refine .op (.y (y_load 0 rfl rfl rfl F.sc109) ?_)
  refine .op (.y (y_nilCheck rfl) ?_)
  refine .op (.y (y_field rfl F.fld146_1) ?_)
  refine .op (.y (y_load 1 rfl rfl rfl F.sc9) ?_)
  refine .op (o_call sha_blocks F.cal87 rfl rfl rfl (by simp) (fun v rs' cs' hv => ?_))
  obtain ⟨bs, rfl, rfl, rfl⟩ := hv
  refine .nil ?_
  refine W.block ?_
  refine W.rangeFunc rfl F.cal103 (fun l d fn tmps hag hl hd => ⟨_, [], [φ], _, List.Perm.refl _, by simp, sha_blocks1 (s := x.rest ++ s) (J := fun i => [cel b2 109 [ptr b], stR b ⟨blocksK x.h (x.rest ++ s) i, (x.rest ++ s).drop (64 * i), x.n + s.length⟩]) (fun i hi => ?_) (by simp; omega), fun e rs' cs' hp => ?_⟩)
  ·
    refine YSpec.round (n := 43) rfl rfl hag (by simp) fun w1 hw1 => ?_
    refine W.seq ?_
    refine W.region ?_
    refine .op (.y (y_assign rfl) ?_)
    refine .nil ?_
    refine W.region ?_
    refine .op (.y (y_assign rfl) ?_)
    refine .nil ?_
    refine ⟨_, List.Perm.refl _, ?_⟩
    refine W.block ?_
    refine W.seq ?_
    refine W.draw F.mixed (true, [([], []), ([], []), ([1], [1]), ([2], [2]), ([3], [3]), ([], []), ([4, 5], [4, 5]), ([0, 0, 1, 2, 3, 4, 5, 6], [0]), ([7, 0, 1, 2, 3, 4, 5, 6], [7]), ([8, 6, 6, 0, 1, 2, 3, 4, 5, 6], [6, 8])]) [9] (by kernel_rfl) _ _ (Incl.refl _ _) ?_
    refine .take 0 rfl (by decide) (y_load 1 rfl rfl rfl F.sc109) ?_
    refine .take 1 rfl (by decide) (y_load 1 rfl rfl rfl F.sc109) ?_
    refine .takeP 2 rfl (by decide) (y_nilCheck rfl) ?_
    refine .takeP 3 rfl (by decide) (y_field rfl F.fld146_0) ?_
    refine .take 4 rfl (by decide) (y_loadA 2 rfl rfl (by simp) F.agg144) ?_
    refine .takeP 5 rfl (by decide) (y_move rfl) ?_
    refine .one 6 (by decide) rfl (o_callV (sha_step (h := blocksK x.h (x.rest ++ s) i) (s := ((x.rest ++ s).drop (64 * i)).take 64) hks (by simp at hi ⊢; omega)) F.cal88 rfl rfl rfl (by simp) ⟨(by first | exact Incl.refl _ _ | exact ⟨by simp, by simp⟩), ?_⟩)
    refine .takeP 7 rfl (by decide) (y_nilCheck rfl) ?_
    refine .takeP 8 rfl (by decide) (y_field rfl F.fld146_0) ?_
    refine .sw (by decide) ?_
    refine .one 9 (by decide) rfl (o_storeN (vs := (blocksK x.h (x.rest ++ s) (i + 1)).cells) 2 rfl rfl rfl rfl (by simp) (by simp [u32_one]) F.sz144 ⟨Incl.none _ _, ?_⟩)
    refine .done (by decide) ?_
    refine W.region ?_
    refine .op (.y (y_load 1 rfl rfl rfl F.sc109) ?_)
    refine .op (.y (y_move rfl) ?_)
    refine .op (.y (y_nilCheck rfl) ?_)
    refine .op (.y (y_field rfl F.fld146_1) ?_)
    refine .op (o_store 2 rfl rfl rfl rfl (by simp) F.sz9 ?_)
    refine .nil ?_
    exact ⟨[cel b2 109 [ptr b], stR b ⟨blocksK x.h (x.rest ++ s) (i + 1), (x.rest ++ s).drop (64 * (i + 1)), x.n + s.length⟩], [], [], List.Perm.refl _, by simp, _, rfl, rfl, rfl, rfl⟩
  ·
    obtain ⟨_, rfl, rfl, rfl, rfl⟩ := hp
    refine ⟨_, _, List.Perm.refl _, by simp, ?_⟩
    refine RetQ.markedN (D := [d]) (rest := _) (List.Perm.refl _) ?_
    exact end0 rfl [stR b (stWrite x s)] [] ⟨_, rfl, rfl, rfl, rfl⟩ (List.sublist_cons_self _ _) (by simp)
/-! ### Clone, Pad, Sum -/
theorem stCells_one (x : St3) : ∀ v ∈ stCells x, v.oneCell' = true := by
  intro v hv
  simp only [stCells, S8.cells, List.cons_append, List.nil_append, List.mem_cons, List.not_mem_nil, or_false] at hv
  rcases hv with h | h | h | h | h | h | h | h | h | h <;> subst h <;> rfl
theorem State_Clone {b : Nat} {x : St3} : Spec Tryd.prog 89 #[ptr b] [stR b x] [] (RetP fun v rs cs => ∃ b', v = ptr b' ∧ rs = [stR b' x, stR b x] ∧ cs = []) := by
  refine Spec.body (args := [ptr b]) (n := 7) Tryd.func89 rfl Tryd.ntmps89 (by simp) fun w0 hw0 => ?_
  refine W.seq ?_
  refine W.region ?_
  refine .op (.y (y_assign rfl) ?_)
  refine .nil ?_
  refine W.seq ?_
  refine W.region ?_
  refine .op (.y (y_move rfl) ?_)
  refine .op (.y (y_nilCheck rfl) ?_)
  refine .op (.y (y_loadA 0 rfl rfl (by simp) F.agg146) ?_)
  refine .op (o_alloc F.ze146 (fun b3 hb3 => ?_))
  refine .op (o_storeN (vs := stCells x) 0 rfl rfl rfl rfl (Nat.le_refl 10) (stCells_one x) F.sz146 ?_)
  refine .nil ?_
  refine W.seq ?_
  refine W.region ?_
  refine .op (.y (y_assign rfl) ?_)
  refine .nil ?_
  refine W.ret ?_
  exact ret1 rfl rfl [stR b3 x, stR b x] [] ⟨_, rfl, b3, rfl, rfl, rfl⟩ (List.Sublist.refl _) (by simp)
def padZ (n : Nat) : Nat := (128 - (n + 1 + 8) % 64) % 64
def padB (n : Nat) : Int := IntKind.u64.wrap (IntKind.u64.wrap (n : Int) * 2 ^ (min (3 : Int).toNat IntKind.u64.bits))
/-- What is put behind so many bytes. -/
def padL (n : Nat) : List UInt8 := [128] ++ List.replicate (padZ n) 0 ++ bigL (padB n) 8
theorem padB_nonneg (n : Nat) : 0 ≤ padB n := wrap_u64_nonneg _
theorem bigL_len (n : Int) (k : Nat) : (bigL n k).length = k := by simp [bigL, lowL]
theorem padL_len (n : Nat) : (padL n).length < 74 := by
  simp only [padL, padZ, List.length_append, List.length_replicate, bigL_len, List.length_cons, List.length_nil]
  omega
theorem sha_Pad {n : Nat} (hn : n ≤ 1099511627776) : Spec Tryd.prog 90 #[.int .i64 (n : Int)] [] [] (Val (str (padL n))) := by
  refine Spec.body (args := [.int .i64 (n : Int)]) (n := 20) Tryd.func90 rfl Tryd.ntmps90 (by simp) fun w0 hw0 => ?_
  refine W.seq ?_
  refine W.region ?_
  refine .op (.y (y_assign rfl) ?_)
  refine .nil ?_
  refine W.seq ?_
  refine W.seq ?_
  refine W.region ?_
  refine .op (.y (y_move rfl) ?_)
  refine .op (.y (y_lssN (j := 0) rfl rfl) ?_)
  rw [show decide (n < 0) = false from by simp]
  refine .nil ?_
  refine W.condF (rfl) ?_
  refine W.skip ?_
  refine W.seq ?_
  refine W.region ?_
  refine .op (.y (y_move rfl) ?_)
  refine .op (.y (y_addN (j := 1) rfl rfl (by omega)) ?_)
  refine .op (.y (y_addN (j := 8) rfl rfl (by omega)) ?_)
  refine .op (.y (y_remN (j := 64) rfl rfl (by omega)) ?_)
  refine .op (.y (y_subN (i := 128) rfl rfl (by omega) (by omega)) ?_)
  refine .op (.y (y_remN (j := 64) rfl rfl (by omega)) ?_)
  refine .op (.y (y_assign rfl) ?_)
  refine .nil ?_
  refine W.seq ?_
  refine W.region ?_
  refine .op (.y (y_move rfl) ?_)
  refine .op (o_callV (strings_Repeat (x := 0) (c := padZ n) (by unfold padZ; omega)) F.cal105 rfl rfl rfl (by simp) ?_)
  refine .op (.y (y_cat (a := [128]) rfl rfl (by simp [padZ]; omega)) ?_)
  refine .op (.y (y_move rfl) ?_)
  refine .op (.y (y_conv rfl Tryd.underlying3 Tryd.underlying22) ?_)
  refine .op (.y (y_shl rfl rfl (by first | omega | simp)) ?_)
  refine .op (o_callV (octet_Big (padB_nonneg n) (by decide)) F.cal39 rfl rfl rfl (by simp) ?_)
  rw [show bigN 8 = 8 from rfl]
  refine .op (.y (y_cat rfl rfl (by simp only [List.length_append, List.length_replicate, bigL_len, padZ, List.length_cons, List.length_nil]; omega)) ?_)
  refine .op (.y (y_assign rfl) ?_)
  refine .nil ?_
  refine W.ret ?_
  exact ret1 rfl rfl [] [] ⟨rfl, rfl, rfl⟩ (by simp) (by simp)
def outK (h : List Int) (i : Nat) : List UInt8 := (h.take i).flatMap fun a => bigL (IntKind.u64.wrap a) 4
def outL (h : S8) : List UInt8 := outK h.list 8
def stSum (x : St3) : List UInt8 := outL (stWrite x (padL x.n)).h
theorem outK_succ {h : List Int} {i : Nat} (hi : i < h.length) : outK h (i + 1) = outK h i ++ bigL (IntKind.u64.wrap (h.getD i 0)) 4 := by
  have e : h.getD i 0 = h[i] := by rw [List.getD_eq_getElem?_getD, List.getElem?_eq_getElem hi]; rfl
  unfold outK
  rw [e, List.take_add_one, List.getElem?_eq_getElem hi, List.flatMap_append, Option.toList_some, List.flatMap_singleton]
theorem outK_len (h : List Int) : ∀ i, i ≤ h.length → (outK h i).length = 4 * i
  | 0, _ => by simp [outK]
  | i + 1, hi => by
    rw [outK_succ (by omega), List.length_append, outK_len h i (by omega), bigL_len]
    omega
theorem stSum_len (x : St3) : (stSum x).length = 32 := outK_len _ 8 (by simp [S8.list])
theorem State_Sum {φ : Frag} {b : Nat} {x : St3} (hks : Pt φ (ptr 2) (ksL.map u32)) (hr : x.rest.length < 64) (hn : x.n ≤ 1099511627000) : Spec Tryd.prog 66 #[ptr b] [stR b x] [φ] (RetP fun v rs cs => v = str (stSum x) ∧ rs = [stR b x] ∧ cs = []) := by
  refine Spec.body (args := [ptr b]) (n := 30) Tryd.func66 rfl Tryd.ntmps66 (by simp) fun w0 hw0 => ?_
  refine W.seq ?_
  refine W.region ?_
  refine .op (.y (y_assign rfl) ?_)
  refine .nil ?_
  refine W.seq ?_
  refine W.region ?_
  refine .op (.y (y_move rfl) ?_)
  refine .op (o_call1 0 State_Clone rfl F.cal89 rfl rfl rfl (by simp) (fun v rs' cs' hv => ?_))
  obtain ⟨b', rfl, rfl, rfl⟩ := hv
  refine .op (.y (y_assign rfl) ?_)
  refine .nil ?_
  refine W.seq ?_
  refine W.region ?_
  refine .op (.y (y_move rfl) ?_)
  refine .op (.y (y_move rfl) ?_)
  refine .op (.y (y_nilCheck rfl) ?_)
  refine .op (.y (y_field rfl F.fld146_2) ?_)
  refine .op (.y (y_load 1 rfl rfl rfl F.sc3) ?_)
  refine .op (o_callV (sha_Pad (n := x.n) (by omega)) F.cal90 rfl rfl rfl (by simp) ?_)
  have hpl := padL_len x.n
  refine .op (o_call1 0 (State_Write (x := x) (s := padL x.n) hks hr (by omega)) rfl F.cal65 rfl rfl rfl (by simp) (fun v rs' cs' hv => ?_))
  obtain ⟨rfl, rfl, rfl⟩ := hv
  refine .nil ?_
  refine W.seq ?_
  refine W.region ?_
  refine .op (.y (y_assign rfl) ?_)
  refine .nil ?_
  refine W.seq ?_
  refine W.seq ?_
  refine W.region ?_
  refine .op (.y (y_move rfl) ?_)
  refine .op (.y (y_nilCheck rfl) ?_)
  refine .op (.y (y_field rfl F.fld146_0) ?_)
  refine .op (.y (y_loadA 0 rfl rfl (by simp) F.agg144) ?_)
  refine .op (.y (y_move rfl) ?_)
  refine .nil ?_
  refine W.block ?_
  refine W.loopI (ι := Nat) (fun i => i ≤ 8) (fun i => [(4, str (outK (stWrite x (padL x.n)).h.list i)), (19, .agg ((stWrite x (padL x.n)).h.list.map u32).toArray), (20, .int .i64 (i : Int))]) (fun i => [stR b x]) (fun i => []) (fun i => 8 - i) 0 (by simp)
    ⟨rfl, ⟨rfl, rfl, rfl, trivial⟩, at1 1 rfl, by simp⟩ ?_
  rintro i hG
  try simp only at hG ⊢
  refine W.seq ?_
  refine W.region ?_
  refine .op (.y (y_lssN (j := 8) rfl rfl) ?_)
  refine .nil ?_
  refine W.seq ?_
  refine W.cond rfl (fun hc21 => ?_) (fun hc21 => ?_)
  ·
    try simp only [decide_eq_true_eq, decide_eq_false_iff_not, Bool.not_eq_true', Bool.not_eq_false', Int.ofNat_lt, Int.ofNat_le, Int.not_lt, Nat.not_lt, Int.not_le, Nat.not_le, Int.natCast_inj, ne_eq, Decidable.not_not] at hc21
    refine W.skip ?_
    refine W.seq ?_
    refine W.block ?_
    refine W.seq ?_
    refine W.region ?_
    refine .op (.y (y_indexVN rfl rfl Tryd.underlying144 F.sz143 F.sc143 (by omega) (mapu (by show i < 8; omega))) ?_)
    refine .op (.y (y_assign rfl) ?_)
    refine .nil ?_
    refine W.region ?_
    refine .op (.y (y_move rfl) ?_)
    refine .op (.y (y_move rfl) ?_)
    refine .op (.y (y_conv rfl Tryd.underlying143 Tryd.underlying22) ?_)
    refine .op (o_callV (octet_Big (wrap_u64_nonneg _) (by decide)) F.cal39 rfl rfl rfl (by simp) ?_)
    rw [show bigN 4 = 4 from rfl]
    refine .op (.y (y_cat rfl rfl (by rw [outK_len _ _ (by show i ≤ 8; omega), bigL_len]; omega)) ?_)
    rw [show outK (stWrite x (padL x.n)).h.list i ++ bigL (IntKind.u64.wrap ((stWrite x (padL x.n)).h.list.getD i 0)) 4 = outK (stWrite x (padL x.n)).h.list (i + 1) from (outK_succ (by show i < 8; omega)).symm]
    refine .op (.y (y_assign rfl) ?_)
    refine .nil ?_
    refine W.region ?_
    refine .op (.y (y_addN (j := 1) rfl rfl (by omega)) ?_)
    refine .op (.y (y_move rfl) ?_)
    refine .nil ?_
    exact ⟨i + 1, by first | omega | (simp only; omega), by first | omega | (simp only; omega), rfl, ⟨rfl, rfl, rfl, trivial⟩, at1 0 rfl, by simp⟩
  ·
    try simp only [decide_eq_true_eq, decide_eq_false_iff_not, Bool.not_eq_true', Bool.not_eq_false', Int.ofNat_lt, Int.ofNat_le, Int.not_lt, Nat.not_lt, Int.not_le, Nat.not_le, Int.natCast_inj, ne_eq, Decidable.not_not] at hc21
    refine W.exit ?_
    have hi' : i = 8 := by omega
    subst hi'
    refine W.seq ?_
    refine W.region ?_
    refine .op (.y (y_move rfl) ?_)
    refine .op (.y (y_assign rfl) ?_)
    refine .nil ?_
    refine W.ret ?_
    exact ret1 rfl rfl [stR b x] [] ⟨_, rfl, rfl, rfl, rfl⟩ (List.Sublist.refl _) (by simp)
/-- A text's sum. -/
def sha (s : List UInt8) : List UInt8 := stSum (stWrite stNew s)
theorem sha_len (s : List UInt8) : (sha s).length = 32 := stSum_len _
theorem sha_Sum {φ : Frag} {s : List UInt8} (hks : Pt φ (ptr 2) (ksL.map u32)) (hbg : Pt φ (ptr 0) (beginS.list.map u32)) (hs : s.length ≤ 1000000000000) : Spec Tryd.prog 31 #[str s] [] [φ] (Val (str (sha s))) := by
  refine Spec.body (args := [str s]) (n := 10) Tryd.func31 rfl Tryd.ntmps31 (by simp) fun w0 hw0 => ?_
  refine W.seq ?_
  refine W.region ?_
  refine .op (.y (y_assign rfl) ?_)
  refine .nil ?_
  refine W.seq ?_
  refine W.region ?_
  refine .op (o_call (sha_New hbg) F.cal64 rfl rfl rfl (by simp) (fun v rs' cs' hv => ?_))
  obtain ⟨b, rfl, rfl, rfl⟩ := hv
  refine .op (.y (y_assign rfl) ?_)
  refine .nil ?_
  refine W.seq ?_
  refine W.region ?_
  refine .op (.y (y_move rfl) ?_)
  refine .op (.y (y_move rfl) ?_)
  refine .op (o_call1 0 (State_Write (x := stNew) (s := s) hks (by simp [stNew]) (by simp [stNew]; omega)) rfl F.cal65 rfl rfl rfl (by simp) (fun v rs' cs' hv => ?_))
  obtain ⟨rfl, rfl, rfl⟩ := hv
  refine .nil ?_
  refine W.seq ?_
  refine W.region ?_
  refine .op (.y (y_move rfl) ?_)
  refine .op (o_call1 0 (State_Sum (x := stWrite stNew s) hks (stWrite_rest _ _) (by simp [stWrite, stNew]; omega)) rfl F.cal66 rfl rfl rfl (by simp) (fun v rs' cs' hv => ?_))
  obtain ⟨rfl, rfl, rfl⟩ := hv
  refine .op (.y (y_assign rfl) ?_)
  refine .nil ?_
  refine W.ret ?_
  exact ret1 rfl rfl [] [] ⟨rfl, rfl, rfl⟩ (by simp) (by simp)
end Go.Proofs.Sep
