/- What is used of Go's library: strings.Repeat (off the shelf), strings.Builder. -/
import Derived.Test.YtpnhedlciamegaaDoorOctet
import Derived.Test.YtpnhedlciamegaaDoorShelf
set_option linter.all false
set_option linter.unusedSimpArgs false
set_option linter.unnecessarySimpa false
set_option linter.deprecated false
set_option maxRecDepth 100000
set_option linter.unusedVariables false
namespace Go.Proofs.Sep
open Go Go.RowKit

theorem Spec.ofBelow {P : Program} {f : FuncId} {args : Array Value} {v : Value} (h : ∀ w, Calls P f args w fun e w' => e = .returned v ∧ Below w.heap.size w w') : Spec P f args [] [] (Val v) := fun w _ =>
  (h w).mono fun e w' ⟨he, hb⟩ => ⟨[], [], ⟨he, rfl, rfl⟩, ⟨Keep.of_below hb, by simp, by simp, List.Pairwise.nil, by simp, by simp⟩⟩
theorem repeatL_one (x : UInt8) (c : Nat) : Lib.repeatL [x] c = List.replicate c x := by
  have := Lib.repeatL_replicate x 1 c
  simpa using this
theorem strings_Repeat {x : UInt8} {c : Nat} (h : c ≤ 140737488355328) : Spec Tryd.prog 105 #[str [x], .int .i64 (c : Int)] [] [] (Val (str (List.replicate c x))) :=
  Spec.ofBelow fun w => by
    have := Tryd.strings_Repeat ⟨[x].toArray⟩ c w (by omega) (by rw [mk_size]; simpa using h)
    rw [repeatL_one] at this
    exact this

/-! ### strings.Builder, alone or the first part of a struct -/
abbrev ptr (b : Nat) : Value := .pointer (some ⟨b, 0, none⟩)
/-- A builder of k cells in a block of type T, what lies behind it being tail. -/
def bld (b : Nat) (T : TypeId) (tail : List Value) (l : List UInt8) (rs : List Res) : Prop :=
  ∃ p v, (p = .pointer none ∨ p = ptr b) ∧ v.oneCell' = true ∧ rs = [cel b T (p :: v :: tail), .buf v 5 l]
/-- A block of type T begins with a builder. -/
def hasB (T : TypeId) (tail : List Value) : Prop := liesAt Tryd.prog Tryd.prog.depth T ((tail.length + 2) / Tryd.prog.cellsOf T) 0 118 1 = true
theorem hasB_builder : hasB 118 [] := by unfold hasB; kernel_rfl
theorem noEscape : Ext Tryd.prog 111 Extern.AbiNoEscape.same := ⟨_, Tryd.func111, by kernel_rfl, by kernel_rfl, by kernel_rfl, by kernel_rfl⟩
theorem copyCheck_new {b : Nat} {T : TypeId} {v : Value} {tail : List Value} (hT : hasB T tail) : Spec Tryd.prog 95 #[ptr b] [cel b T (.pointer none :: v :: tail)] [] (RetP fun u rs' cs => u = .tuple #[] ∧ rs' = [cel b T (ptr b :: v :: tail)] ∧ cs = []) := by
  refine Spec.body (args := [ptr b]) (n := 20) Tryd.func95 rfl Tryd.ntmps95 (by simp) fun w0 hw0 => ?_
  refine W.seq ?_
  refine W.region ?_
  refine .op (.y (y_move rfl) ?_)
  refine .op (.y (y_nilCheck rfl) ?_)
  refine .op (.y (y_field rfl F.fld118_0) ?_)
  refine .op (.y (y_load 0 rfl rfl rfl F.sc116) ?_)
  refine .op (.y (y_eqlPtrNil rfl Tryd.underlying116) ?_)
  refine .nil ?_
  refine W.condT (rfl) ?_
  refine W.region ?_
  refine .op (.y (y_move rfl) ?_)
  refine .op (.y (y_move rfl) ?_)
  refine .op (.y (y_toUnsafe 0 rfl rfl (by simp) Tryd.underlying116 Tryd.underlying181 F.sz118) ?_)
  refine .op (o_noEscape noEscape rfl ?_)
  refine .op (.y (y_fromUnsafe 0 rfl rfl Tryd.underlying181 Tryd.underlying116 F.sz118 (by simpa [hasB] using hT)) ?_)
  refine .op (.y (y_nilCheck rfl) ?_)
  refine .op (.y (y_field rfl F.fld118_0) ?_)
  refine .op (o_store 0 rfl rfl rfl rfl (by simp) F.sz116 ?_)
  refine .nil ?_
  exact end0 rfl [cel b T (ptr b :: v :: tail)] [] ⟨_, rfl, rfl, rfl, rfl⟩ (List.Sublist.refl _) (by simp)
theorem copyCheck_old {b : Nat} {T : TypeId} {v : Value} {tail : List Value} : Spec Tryd.prog 95 #[ptr b] [cel b T (ptr b :: v :: tail)] [] (RetP fun u rs' cs => u = .tuple #[] ∧ rs' = [cel b T (ptr b :: v :: tail)] ∧ cs = []) := by
  refine Spec.body (args := [ptr b]) (n := 20) Tryd.func95 rfl Tryd.ntmps95 (by simp) fun w0 hw0 => ?_
  refine W.seq ?_
  refine W.region ?_
  refine .op (.y (y_move rfl) ?_)
  refine .op (.y (y_nilCheck rfl) ?_)
  refine .op (.y (y_field rfl F.fld118_0) ?_)
  refine .op (.y (y_load 0 rfl rfl rfl F.sc116) ?_)
  refine .op (.y (y_eqlPtrNil rfl Tryd.underlying116) ?_)
  refine .nil ?_
  refine W.condF (rfl) ?_
  refine W.seq ?_
  refine W.region ?_
  refine .op (.y (y_move rfl) ?_)
  refine .op (.y (y_nilCheck rfl) ?_)
  refine .op (.y (y_field rfl F.fld118_0) ?_)
  refine .op (.y (y_load 0 rfl rfl rfl F.sc116) ?_)
  refine .op (.y (y_move rfl) ?_)
  refine .op (.y (y_neqPtrSame rfl rfl Tryd.underlying116 F.sz118) ?_)
  refine .nil ?_
  refine W.condF (rfl) ?_
  refine W.skip ?_
  exact end0 rfl [cel b T (ptr b :: v :: tail)] [] ⟨_, rfl, rfl, rfl, rfl⟩ (List.Sublist.refl _) (by simp)
theorem copyCheck {b : Nat} {T : TypeId} {p v : Value} {tail : List Value} (hT : hasB T tail) (hp : p = .pointer none ∨ p = ptr b) :
    Spec Tryd.prog 95 #[ptr b] [cel b T (p :: v :: tail)] [] (RetP fun u rs' cs => u = .tuple #[] ∧ rs' = [cel b T (ptr b :: v :: tail)] ∧ cs = []) := by
  rcases hp with rfl | rfl
  · exact copyCheck_new hT
  · exact copyCheck_old
theorem Builder_WriteByte {b : Nat} {T : TypeId} {tail : List Value} {l : List UInt8} {c : UInt8} {rs : List Res} (h : bld b T tail l rs) (hT : hasB T tail) (hl : l.length + 1 ≤ 140737488355328) : Spec Tryd.prog 71 #[ptr b, byte c] rs [] (RetP fun u rs' cs => u = .nilIface ∧ cs = [] ∧ bld b T tail (l ++ [c]) rs') := by
  refine Spec.body (args := [ptr b, byte c]) (n := 17) Tryd.func71 rfl Tryd.ntmps71 (by simp) fun w0 hw0 => ?_
  obtain ⟨p, v, hp, hv, rfl⟩ := h
  refine W.seq ?_
  refine W.region ?_
  refine .op (.y (y_assign rfl) ?_)
  refine .nil ?_
  refine W.seq ?_
  refine W.region ?_
  refine .op (.y (y_move rfl) ?_)
  refine .op (o_call1 0 (copyCheck hT hp) rfl F.cal95 rfl rfl rfl (by simp) (fun u rs' cs' hh => ?_))
  obtain ⟨rfl, rfl, rfl⟩ := hh
  refine .nil ?_
  refine W.seq ?_
  refine W.region ?_
  refine .op (.y (y_move rfl) ?_)
  refine .op (.y (y_move rfl) ?_)
  refine .op (.y (y_nilCheck rfl) ?_)
  refine .op (.y (y_field rfl F.fld118_1) ?_)
  refine .op (.y (y_load 0 rfl rfl rfl F.sc76) ?_)
  refine .op (.y (y_move rfl) ?_)
  refine .op (o_buildD [byte c] [[byte c]] Tryd.underlying76 F.ze5 rfl (by omega) rfl rfl rfl rfl (by simp) (by omega) (fun gb hgb => ?_))
  refine .op (o_appendB (a := [c]) 2 0 rfl rfl rfl rfl (by simp) Tryd.underlying76 F.ze5 (by simpa using hl) (fun v' hv' => ?_))
  refine .op (.y (y_nilCheck rfl) ?_)
  refine .op (.y (y_field rfl F.fld118_1) ?_)
  refine .op (o_store 1 rfl rfl hv' rfl (by simp) F.sz76 ?_)
  refine .nil ?_
  refine W.seq ?_
  refine W.region ?_
  refine .op (.y (y_assign rfl) ?_)
  refine .nil ?_
  refine W.ret ?_
  exact ret1 rfl rfl [cel b T (ptr b :: v' :: tail), .buf v' 5 (l ++ [c])] [] ⟨_, rfl, rfl, rfl, _, v', .inr rfl, hv', rfl⟩ (List.sublist_cons_self _ _) (by simp)
theorem Builder_WriteString {b : Nat} {T : TypeId} {tail : List Value} {l a : List UInt8} {rs : List Res} (h : bld b T tail l rs) (hT : hasB T tail) (hl : l.length + a.length ≤ 140737488355328) : Spec Tryd.prog 96 #[ptr b, str a] rs [] (RetP fun u rs' cs => u = .tuple #[.int .i64 (a.length : Int), .nilIface] ∧ cs = [] ∧ bld b T tail (l ++ a) rs') := by
  refine Spec.body (args := [ptr b, str a]) (n := 19) Tryd.func96 rfl Tryd.ntmps96 (by simp) fun w0 hw0 => ?_
  obtain ⟨p, v, hp, hv, rfl⟩ := h
  refine W.seq ?_
  refine W.region ?_
  refine .op (.y (y_assign rfl) ?_)
  refine .op (.y (y_assign rfl) ?_)
  refine .nil ?_
  refine W.seq ?_
  refine W.region ?_
  refine .op (.y (y_move rfl) ?_)
  refine .op (o_call1 0 (copyCheck hT hp) rfl F.cal95 rfl rfl rfl (by simp) (fun u rs' cs' hh => ?_))
  obtain ⟨rfl, rfl, rfl⟩ := hh
  refine .nil ?_
  refine W.seq ?_
  refine W.region ?_
  refine .op (.y (y_move rfl) ?_)
  refine .op (.y (y_move rfl) ?_)
  refine .op (.y (y_nilCheck rfl) ?_)
  refine .op (.y (y_field rfl F.fld118_1) ?_)
  refine .op (.y (y_load 0 rfl rfl rfl F.sc76) ?_)
  refine .op (.y (y_move rfl) ?_)
  refine .op (o_appendS 1 rfl rfl rfl Tryd.underlying76 Tryd.underlying9 F.ze5 hl (fun v' hv' => ?_))
  refine .op (.y (y_nilCheck rfl) ?_)
  refine .op (.y (y_field rfl F.fld118_1) ?_)
  refine .op (o_store 0 rfl rfl hv' rfl (by simp) F.sz76 ?_)
  refine .nil ?_
  refine W.seq ?_
  refine W.region ?_
  refine .op (.y (y_move rfl) ?_)
  refine .op (.y (y_slen rfl Tryd.underlying9) ?_)
  refine .op (.y (y_assign rfl) ?_)
  refine .op (.y (y_assign rfl) ?_)
  refine .nil ?_
  refine W.ret ?_
  exact ret2 rfl rfl rfl [cel b T (ptr b :: v' :: tail), .buf v' 5 (l ++ a)] [] ⟨_, rfl, rfl, rfl, _, v', .inr rfl, hv', rfl⟩ (List.Sublist.refl _) (by simp)
theorem Builder_Len {b : Nat} {T : TypeId} {tail : List Value} {l : List UInt8} {rs : List Res} (h : bld b T tail l rs) : Spec Tryd.prog 121 #[ptr b] rs [] (RetP fun u rs' cs => u = .int .i64 (l.length : Int) ∧ cs = [] ∧ bld b T tail l rs') := by
  refine Spec.body (args := [ptr b]) (n := 8) Tryd.func121 rfl Tryd.ntmps121 (by simp) fun w0 hw0 => ?_
  obtain ⟨p, v, hp, hv, rfl⟩ := h
  refine W.seq ?_
  refine W.region ?_
  refine .op (.y (y_assign rfl) ?_)
  refine .nil ?_
  refine W.seq ?_
  refine W.region ?_
  refine .op (.y (y_move rfl) ?_)
  refine .op (.y (y_nilCheck rfl) ?_)
  refine .op (.y (y_field rfl F.fld118_1) ?_)
  refine .op (.y (y_load 0 rfl rfl rfl F.sc76) ?_)
  refine .op (.y (y_lenB 1 rfl rfl Tryd.underlying76) ?_)
  refine .op (.y (y_assign rfl) ?_)
  refine .nil ?_
  refine W.ret ?_
  exact ret1 rfl rfl _ [] ⟨_, rfl, rfl, rfl, _, v, hp, hv, rfl⟩ (List.Sublist.refl _) (by simp)
theorem Builder_String {b : Nat} {T : TypeId} {tail : List Value} {l : List UInt8} {rs : List Res} (h : bld b T tail l rs) : Spec Tryd.prog 73 #[ptr b] rs [] (RetP fun u rs' cs => u = str l ∧ cs = [] ∧ bld b T tail l rs') := by
  refine Spec.body (args := [ptr b]) (n := 14) Tryd.func73 rfl Tryd.ntmps73 (by simp) fun w0 hw0 => ?_
  obtain ⟨p, v, hp, hv, rfl⟩ := h
  refine W.seq ?_
  refine W.region ?_
  refine .op (.y (y_assign rfl) ?_)
  refine .nil ?_
  refine W.seq ?_
  refine W.draw F.mixed (true, [([], []), ([0], [0]), ([1], [1]), ([2], [2]), ([3], [3]), ([], []), ([5], [5]), ([6], [6]), ([7], [7]), ([8], [8]), ([4, 9], [4, 9]), ([10, 0, 1, 2, 3, 4, 5, 6, 7, 8, 9, 10], [10])]) [] (by kernel_rfl) _ _ (Incl.refl _ _) ?_
  refine .takeP 0 rfl (by decide) (y_move rfl) ?_
  refine .takeP 1 rfl (by decide) (y_nilCheck rfl) ?_
  refine .takeP 2 rfl (by decide) (y_field rfl F.fld118_1) ?_
  refine .take 3 rfl (by decide) (y_load 0 rfl rfl rfl F.sc76) ?_
  refine .takeP 5 rfl (by decide) (y_move rfl) ?_
  refine .takeP 6 rfl (by decide) (y_nilCheck rfl) ?_
  refine .takeP 7 rfl (by decide) (y_field rfl F.fld118_1) ?_
  refine .take 8 rfl (by decide) (y_load 0 rfl rfl rfl F.sc76) ?_
  refine .take 9 rfl (by decide) (y_lenB 1 rfl rfl Tryd.underlying76) ?_
  refine .one 4 (by decide) rfl (o_sliceData 1 rfl rfl Tryd.underlying161 (fun u hu => ⟨(by first | exact Incl.refl _ _ | exact ⟨by simp, by simp⟩), ?_⟩))
  refine .one 10 (by decide) rfl (o_ustring 1 rfl rfl hu rfl Tryd.underlying161 F.co5 ⟨(by first | exact Incl.refl _ _ | exact ⟨by simp, by simp⟩), ?_⟩)
  refine .takeP 11 rfl (by decide) (y_assign rfl) ?_
  refine .done (by decide) ?_
  refine W.ret ?_
  exact ret1 rfl rfl _ [] ⟨_, rfl, rfl, rfl, _, v, hp, hv, rfl⟩ (List.Sublist.refl _) (by simp)
end Go.Proofs.Sep
