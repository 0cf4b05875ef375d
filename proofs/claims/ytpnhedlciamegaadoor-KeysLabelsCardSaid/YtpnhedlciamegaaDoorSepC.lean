/- Single operations: copies, numbers, bools, strings, tuples, functions. -/
import Derived.Test.YtpnhedlciamegaaDoorSepB
set_option linter.all false
set_option linter.unnecessarySimpa false
set_option linter.deprecated false
set_option linter.unusedVariables false
set_option linter.unusedSimpArgs false
namespace Go.Proofs.Sep
open Go Go.RowKit

/-- A string by its bytes. -/
def str (l : List UInt8) : Value := .string ⟨l.toArray⟩
theorem str_inj {a b : List UInt8} (h : str a = str b) : a = b := by
  unfold str at h
  injection h with h
  have := congrArg (fun x : ByteArray => x.data.toList) h
  simpa using this
theorem mk_toList (l : List UInt8) : (⟨l.toArray⟩ : ByteArray).toList = l := by
  have : (⟨l.toArray⟩ : ByteArray).toList = (⟨l.toArray⟩ : ByteArray).data.toList := by simp
  rw [this]
theorem mk_size (l : List UInt8) : (⟨l.toArray⟩ : ByteArray).size = l.length := by simp [ByteArray.size]
theorem mk_append (a b : List UInt8) : (⟨a.toArray⟩ : ByteArray) ++ ⟨b.toArray⟩ = ⟨(a ++ b).toArray⟩ := by
  apply ByteArray.ext
  simp
theorem string_str (s : ByteArray) : Value.string s = str s.data.toList := by cases s; simp [str]

section
variable {P : Program} {ro : Option Nat} {n : Nat} {E : Env} {Q : SQ} {K : SK} {ds : List Deferred} {s : Sto} {os : List Res} {fs : List Frag}
variable {H : World → Prop} {d : Nat} {ty : TypeId} {p : String} {af : Array Edge} {g : Option (Nat × Bool)}

theorem y_move {x : Operand} {v : Value} (hx : ev s x = some v) : Y P H s (.move x) (v) :=
  fun o ρ w ho h _ => ( by simp [execOp, ho, h x v hx])
theorem y_assign {x : Operand} {v : Value} (hx : ev s x = some v) : Y P H s (.assign x) (v) :=
  fun o ρ w ho h _ => ( by simp [execOp, ho, h x v hx])
theorem y_pick {c x y : Operand} {b : Bool} {v : Value} (hc : ev s c = some (.bool b)) (hv : ev s (if b then x else y) = some v) : Y P H s (.pick c x y) (v) :=
  fun o ρ w ho h _ => ( by
    have h2 := h _ _ hv
    cases b <;> simp [execOp, ho, h c _ hc, asBool] <;> simpa using h2)
theorem y_nilCheck {x : Operand} {a : Addr} (hx : ev s x = some (.pointer (some a))) : Y P H s (.nilCheck x) (.pointer (some a)) :=
  fun o ρ w ho h _ => ( by simp [execOp, ho, h x _ hx])
theorem y_nilCheckF {x : Operand} {f : FuncId} {c1 c2 : Array Value} (hx : ev s x = some (.func (.func f) c1 c2)) : Y P H s (.nilCheck x) (.func (.func f) c1 c2) :=
  fun o ρ w ho h _ => ( by simp [execOp, ho, h x _ hx])
theorem y_extract {x : Operand} {i : Nat} {vs : Array Value} {v : Value} (hx : ev s x = some (.tuple vs)) (hv : vs[i]? = some v) : Y P H s (.extract x i) (v) :=
  fun o ρ w ho h _ => ( by simp [execOp, ho, h x _ hx, Instr.extract, hv])
theorem y_not {x : Operand} {t : TypeId} {b : Bool} (hx : ev s x = some (.bool b)) : Y P H s (.unOp .not t x) (.bool (!b)) :=
  fun o ρ w ho h _ => ( by simp [execOp, ho, h x _ hx, Op.unary])
theorem y_neg {x : Operand} {t : TypeId} {k : IntKind} {i : Int} (hx : ev s x = some (.int k i)) : Y P H s (.unOp .neg t x) (.int k (k.wrap (0 - i))) :=
  fun o ρ w ho h _ => ( by simp [execOp, ho, h x _ hx, Op.unary, Op.intArith])
/-! numbers -/
section
variable {x y : Operand} {t u : TypeId} {k : IntKind} {i j : Int}
theorem run_binInt (op : BinOp) (hx : ev s x = some (.int k i)) (hy : ev s y = some (.int k j)) {v : Value}
    (hv : ∀ w, (binOp op t (.int k i) (.int k j)).run P w = .ok v w) :
    Y P H s (.binOp op t x y u) v :=
  fun o ρ w ho h _ => (by
    simp only [execOp, ho, h x _ hx, h y _ hy]
    have he : ∀ w, (eqGuard op t x y (.int k i) (.int k j)).run P w = .ok () w := by
      intro w
      unfold eqGuard
      cases op <;> simp
    simp [Sem.run_bind, he, hv])
theorem y_add (hx : ev s x = some (.int k i)) (hy : ev s y = some (.int k j)) : Y P H s (.binOp .add t x y u) (.int k (k.wrap (i + j))) := run_binInt .add hx hy (fun w => by simp [binOp, Op.intArith])
theorem y_sub (hx : ev s x = some (.int k i)) (hy : ev s y = some (.int k j)) : Y P H s (.binOp .sub t x y u) (.int k (k.wrap (i - j))) := run_binInt .sub hx hy (fun w => by simp [binOp, Op.intArith])
theorem y_mul (hx : ev s x = some (.int k i)) (hy : ev s y = some (.int k j)) : Y P H s (.binOp .mul t x y u) (.int k (k.wrap (i * j))) := run_binInt .mul hx hy (fun w => by simp [binOp, Op.intArith])
theorem wrap_i64_id {n : Int} (h0 : -9223372036854775808 ≤ n) (h1 : n ≤ 9223372036854775807) : IntKind.i64.wrap n = n := by rw [IntKind.wrap_i64]; omega
theorem y_addI (hx : ev s x = some (.int .i64 i)) (hy : ev s y = some (.int .i64 j)) (hb : -9223372036854775808 ≤ i + j ∧ i + j ≤ 9223372036854775807) : Y P H s (.binOp .add t x y u) (.int .i64 (i + j)) := (by have := y_add (P := P) (H := H) (t := t) (u := u) hx hy; rwa [wrap_i64_id hb.1 hb.2] at this)
theorem y_subI (hx : ev s x = some (.int .i64 i)) (hy : ev s y = some (.int .i64 j)) (hb : -9223372036854775808 ≤ i - j ∧ i - j ≤ 9223372036854775807) : Y P H s (.binOp .sub t x y u) (.int .i64 (i - j)) := (by have := y_sub (P := P) (H := H) (t := t) (u := u) hx hy; rwa [wrap_i64_id hb.1 hb.2] at this)
theorem y_mulI (hx : ev s x = some (.int .i64 i)) (hy : ev s y = some (.int .i64 j)) (hb : -9223372036854775808 ≤ i * j ∧ i * j ≤ 9223372036854775807) : Y P H s (.binOp .mul t x y u) (.int .i64 (i * j)) := (by have := y_mul (P := P) (H := H) (t := t) (u := u) hx hy; rwa [wrap_i64_id hb.1 hb.2] at this)
theorem y_quo (hx : ev s x = some (.int k i)) (hy : ev s y = some (.int k j)) (hj : j ≠ 0) : Y P H s (.binOp .quo t x y u) (.int k (k.wrap (i.tdiv j))) := run_binInt .quo hx hy (fun w => by simp [binOp, Op.intDiv, hj])
theorem y_rem (hx : ev s x = some (.int k i)) (hy : ev s y = some (.int k j)) (hj : j ≠ 0) : Y P H s (.binOp .rem t x y u) (.int k (i.tmod j)) := run_binInt .rem hx hy (fun w => by simp [binOp, Op.intDiv, hj])
theorem y_lss (hx : ev s x = some (.int k i)) (hy : ev s y = some (.int k j)) : Y P H s (.binOp .lss t x y u) (.bool (decide (i < j))) := run_binInt .lss hx hy (fun w => by simp [binOp, Op.intCmp])
theorem y_leq (hx : ev s x = some (.int k i)) (hy : ev s y = some (.int k j)) : Y P H s (.binOp .leq t x y u) (.bool (decide (i ≤ j))) := run_binInt .leq hx hy (fun w => by simp [binOp, Op.intCmp])
theorem y_gtr (hx : ev s x = some (.int k i)) (hy : ev s y = some (.int k j)) : Y P H s (.binOp .gtr t x y u) (.bool (decide (j < i))) := run_binInt .gtr hx hy (fun w => by simp [binOp, Op.intCmp])
theorem y_geq (hx : ev s x = some (.int k i)) (hy : ev s y = some (.int k j)) : Y P H s (.binOp .geq t x y u) (.bool (decide (j ≤ i))) := run_binInt .geq hx hy (fun w => by simp [binOp, Op.intCmp])
theorem beq_dec (a b : Int) : (a == b) = decide (a = b) := rfl
theorem y_eql (hx : ev s x = some (.int k i)) (hy : ev s y = some (.int k j)) : Y P H s (.binOp .eql t x y u) (.bool (decide (i = j))) := run_binInt .eql hx hy (fun w => by simp [binOp, Op.intCmp]; exact beq_dec i j)
theorem y_neq (hx : ev s x = some (.int k i)) (hy : ev s y = some (.int k j)) : Y P H s (.binOp .neq t x y u) (.bool (decide (i ≠ j))) := run_binInt .neq hx hy (fun w => by
      simp only [binOp, Op.intCmp]
      have : (i != j) = decide (i ≠ j) := by rw [Bool.eq_iff_iff]; simp
      simp [this])
theorem y_bits (op : BinOp) (ho : op = .and ∨ op = .or ∨ op = .xor ∨ op = .andNot) (hx : ev s x = some (.int k i)) (hy : ev s y = some (.int k j)) {v : Value} (hv : ∀ w, (Op.intBits op k i j).run P w = .ok v w)
    : Y P H s (.binOp op t x y u) (v) := run_binInt op hx hy (fun w => by
      rcases ho with rfl | rfl | rfl | rfl <;> simpa [binOp] using hv w)
theorem y_shl {k2 : IntKind} (hx : ev s x = some (.int k i)) (hy : ev s y = some (.int k2 j)) (hj : 0 ≤ j) : Y P H s (.binOp .shl t x y u) (.int k (k.wrap (i * 2 ^ (min j.toNat k.bits)))) :=
  fun o ρ w ho h _ => ( by
    have hj' : ¬ j < 0 := by omega
    simp [execOp, ho, h x _ hx, h y _ hy, eqGuard, binOp, Op.shift, hj'])
theorem y_shr {k2 : IntKind} (hx : ev s x = some (.int k i)) (hy : ev s y = some (.int k2 j)) (hj : 0 ≤ j) : Y P H s (.binOp .shr t x y u) (.int k (i.fdiv (2 ^ (min j.toNat k.bits)))) :=
  fun o ρ w ho h _ => ( by
    have hj' : ¬ j < 0 := by omega
    simp [execOp, ho, h x _ hx, h y _ hy, eqGuard, binOp, Op.shift, hj'])
theorem y_conv {k2 : IntKind} {src dst : TypeId} (hx : ev s x = some (.int k i)) {dsc : TypeDesc} (hs : P.underlying src = some dsc) (ht : P.underlying dst = some (.int k2)) : Y P H s (.convert src dst x) (.int k2 (k2.wrap i)) :=
  fun o ρ w ho h _ => ( by
    simp [execOp, ho, h x _ hx, convert, run_underlying hs, run_underlying ht, Conv.intToInt])
end

/-! bools -/
theorem run_eqB {t : TypeId} {a b : Bool} (ht : P.underlying t = some .bool) (w : World) : (Op.equal t (.bool a) (.bool b)).run P w = .ok (a == b) w := by
  have h : ∀ d : Nat, (Op.equalIn (d + 1) t (.bool a) (.bool b)).run P w = .ok (a == b) w := fun d => by simp [Op.equalIn, run_underlying ht]
  exact h 9999
theorem run_eqlB {t : TypeId} {a b : Bool} (ht : P.underlying t = some .bool) (w : World) : (binOp .eql t (.bool a) (.bool b)).run P w = .ok (.bool (a == b)) w := by
  have e : binOp .eql t (.bool a) (.bool b) = (do pure (.bool (← Op.equal t (.bool a) (.bool b)))) := rfl
  rw [e, Sem.run_bind, run_eqB ht]; rfl
theorem run_neqB {t : TypeId} {a b : Bool} (ht : P.underlying t = some .bool) (w : World) : (binOp .neq t (.bool a) (.bool b)).run P w = .ok (.bool (!(a == b))) w := by
  have e : binOp .neq t (.bool a) (.bool b) = (do pure (.bool (!(← Op.equal t (.bool a) (.bool b))))) := rfl
  rw [e, Sem.run_bind, run_eqB ht]; rfl
theorem y_eqlB {x y : Operand} {t u : TypeId} {a b : Bool} (hx : ev s x = some (.bool a)) (hy : ev s y = some (.bool b)) (ht : P.underlying t = some .bool) : Y P H s (.binOp .eql t x y u) (.bool (a == b)) :=
  fun o ρ w ho h _ => ( by
    simp only [execOp, ho, h x _ hx, h y _ hy]
    have he : ∀ w, (eqGuard .eql t x y (.bool a) (.bool b)).run P w = .ok () w := fun w => by unfold eqGuard; simp
    simp [Sem.run_bind, he, run_eqlB ht])
theorem y_neqB {x y : Operand} {t u : TypeId} {a b : Bool} (hx : ev s x = some (.bool a)) (hy : ev s y = some (.bool b)) (ht : P.underlying t = some .bool) : Y P H s (.binOp .neq t x y u) (.bool (!(a == b))) :=
  fun o ρ w ho h _ => ( by
    simp only [execOp, ho, h x _ hx, h y _ hy]
    have he : ∀ w, (eqGuard .neq t x y (.bool a) (.bool b)).run P w = .ok () w := fun w => by unfold eqGuard; simp
    simp [Sem.run_bind, he, run_neqB ht])
/-! strings -/
section
variable {x y : Operand} {t u : TypeId} {a b : List UInt8}
theorem run_binStr (op : BinOp) (hx : ev s x = some (str a)) (hy : ev s y = some (str b)) {v : Value}
    (hv : ∀ w, (Op.stringOp op ⟨a.toArray⟩ ⟨b.toArray⟩).run P w = .ok v w) (hop : op ≠ .shl ∧ op ≠ .shr) :
    Y P H s (.binOp op t x y u) v :=
  fun o ρ w ho h _ => (by
    simp only [execOp, ho, h x _ hx, h y _ hy, str]
    have he : ∀ w, (eqGuard op t x y (.string ⟨a.toArray⟩) (.string ⟨b.toArray⟩)).run P w = .ok () w := by
      intro w
      unfold eqGuard
      cases op <;> simp
    have hb : binOp op t (.string ⟨a.toArray⟩) (.string ⟨b.toArray⟩) = Op.stringOp op ⟨a.toArray⟩ ⟨b.toArray⟩ := by
      unfold binOp
      cases op <;> first | rfl | simp at hop
    simp [Sem.run_bind, he, hb, hv])
theorem y_cat (hx : ev s x = some (str a)) (hy : ev s y = some (str b)) (hl : a.length + b.length ≤ 9223372036854775807) : Y P H s (.binOp .add t x y u) (str (a ++ b)) :=
  run_binStr .add hx hy (fun w => by
    have hm : IntKind.i64.max = 9223372036854775807 := by decide
    have : ¬ (((⟨a.toArray⟩ : ByteArray).size + (⟨b.toArray⟩ : ByteArray).size : Nat) : Int) > IntKind.i64.max := by rw [mk_size, mk_size, hm]; omega
    simp only [Op.stringOp, if_neg this, mk_append]; rfl) (by simp)
theorem y_seql (hx : ev s x = some (str a)) (hy : ev s y = some (str b)) : Y P H s (.binOp .eql t x y u) (.bool (decide (a = b))) :=
  run_binStr .eql hx hy (fun w => by simp only [Op.stringOp, mk_toList]; rw [show (a == b) = decide (a = b) from by rw [Bool.eq_iff_iff]; simp]; rfl) (by simp)
theorem y_sneq (hx : ev s x = some (str a)) (hy : ev s y = some (str b)) : Y P H s (.binOp .neq t x y u) (.bool (decide (a ≠ b))) :=
  run_binStr .neq hx hy (fun w => by simp only [Op.stringOp, mk_toList]; rw [show (!(a == b)) = decide (a ≠ b) from by rw [Bool.eq_iff_iff]; simp]; rfl) (by simp)
theorem y_slss (hx : ev s x = some (str a)) (hy : ev s y = some (str b)) : Y P H s (.binOp .lss t x y u) (.bool (Op.bytesLess a b)) :=
  run_binStr .lss hx hy (fun w => by simp only [Op.stringOp, mk_toList]; rfl) (by simp)
theorem y_sleq (hx : ev s x = some (str a)) (hy : ev s y = some (str b)) : Y P H s (.binOp .leq t x y u) (.bool (Op.bytesLess a b || a == b)) :=
  run_binStr .leq hx hy (fun w => by simp only [Op.stringOp, mk_toList]; rfl) (by simp)
theorem y_sgtr (hx : ev s x = some (str a)) (hy : ev s y = some (str b)) : Y P H s (.binOp .gtr t x y u) (.bool (!(Op.bytesLess a b || a == b))) :=
  run_binStr .gtr hx hy (fun w => by simp only [Op.stringOp, mk_toList]; rfl) (by simp)
theorem y_sgeq (hx : ev s x = some (str a)) (hy : ev s y = some (str b)) : Y P H s (.binOp .geq t x y u) (.bool (!(Op.bytesLess a b))) :=
  run_binStr .geq hx hy (fun w => by simp only [Op.stringOp, mk_toList]; rfl) (by simp)
theorem y_slen (hx : ev s x = some (str a)) (ht : P.underlying t = some .string) : Y P H s (.call ⟨.builtin .len, #[x], #[t]⟩) (.int .i64 (a.length : Int)) :=
  fun o ρ w ho h _ => ( by
    simp [execOp, ho, resolve, invoke, builtin, Builtin.len_, h x _ hx, str, run_underlying ht, goInt, mk_size])
theorem y_sindex {i : Int} (hx : ev s x = some (str a)) (hy : ev s y = some (.int .i64 i)) (ht : P.underlying t = some .string) (h0 : 0 ≤ i) {c : UInt8} (hc : a[i.toNat]? = some c)
    : Y P H s (.index t x y) (.int .u8 (c.toNat : Int)) :=
  fun o ρ w ho h _ => ( by
    have hc' : (⟨a.toArray⟩ : ByteArray)[i.toNat]? = some c := by
      have hlt := (List.getElem?_eq_some_iff.1 hc).1
      have e := (List.getElem?_eq_some_iff.1 hc).2
      rw [getElem?_pos (⟨a.toArray⟩ : ByteArray) i.toNat (by rw [mk_size]; exact hlt)]
      rw [← e]
      rfl
    simp [execOp, ho, h x _ hx, h y _ hy, Instr.index, str, asIntOf, run_underlying ht, h0, hc'])
theorem extract_mk (a : List UInt8) (i j : Nat) : (⟨a.toArray⟩ : ByteArray).extract i j = ⟨((a.drop i).take (j - i)).toArray⟩ := by
  apply ByteArray.ext
  simp [List.extract_eq_take_drop]
theorem y_sslice {lo hi : Option Operand} {i j : Nat} (hx : ev s x = some (str a)) (ht : P.underlying t = some .string)
    (hlo : match lo with | none => i = 0 | some l => ev s l = some (.int .i64 (i : Int))) (hhi : match hi with | none => j = a.length | some l => ev s l = some (.int .i64 (j : Int)))
    (hij : i ≤ j) (hj : j ≤ a.length) : Y P H s (.slice t x lo hi none) (str ((a.drop i).take (j - i))) :=
  fun o ρ w ho h _ => ( by
    have h1 : ((i : Int)) ≤ (j : Int) := by omega
    have h2 : ((j : Int)) ≤ (a.length : Int) := by omega
    cases lo <;> cases hi <;> simp only at hlo hhi
    · subst hlo; subst hhi
      simp [execOp, ho, Instr.sliceAt, Instr.slice, Instr.sliceBounds, h x _ hx, str, run_underlying ht, extract_mk, mk_size]
    · subst hlo
      simp [execOp, ho, Instr.sliceAt, Instr.slice, Instr.sliceBounds, Instr.sliceBound, asIntOf, h x _ hx, h _ _ hhi, str, run_underlying ht, extract_mk, mk_size, h2, hj]
    · subst hhi
      simp [execOp, ho, Instr.sliceAt, Instr.slice, Instr.sliceBounds, Instr.sliceBound, asIntOf, h x _ hx, h _ _ hlo, str, run_underlying ht, extract_mk, mk_size, h1, hij]
    · simp [execOp, ho, Instr.sliceAt, Instr.slice, Instr.sliceBounds, Instr.sliceBound, asIntOf, h x _ hx, h _ _ hlo, h _ _ hhi, str, run_underlying ht, extract_mk, mk_size, h1, h2, hij, hj])
end

/-! functions -/
theorem y_makeFunc {f : Fn} {first captured : Array Operand} {c1 c2 : List Value} (h1 : first.toList.mapM (ev s) = some c1) (h2 : captured.toList.mapM (ev s) = some c2)
    : Y P H s (.makeFunc f first captured) (.func f c1.toArray c2.toArray) :=
  fun o ρ w ho h _ => ( by
    have key : ∀ (l : List Operand) (c : List Value), l.mapM (ev s) = some c → l.map ρ = c := by
      intro l
      induction l with
      | nil => intro c hc; simp at hc; simp [hc]
      | cons x l ih =>
        intro c hc
        rw [List.mapM_cons] at hc
        cases hx : ev s x with
        | none => rw [hx] at hc; simp at hc
        | some v =>
          cases hl : l.mapM (ev s) with
          | none => rw [hx, hl] at hc; simp at hc
          | some c' =>
            rw [hx, hl] at hc
            simp at hc
            subst hc
            simp [h x v hx, ih _ hl]
    have e1 : first.map ρ = c1.toArray := by rw [← key _ _ h1, ← Array.toList_map, Array.toArray_toList]
    have e2 : captured.map ρ = c2.toArray := by rw [← key _ _ h2, ← Array.toList_map, Array.toArray_toList]
    simp [execOp, ho, Instr.makeFunc, e1, e2])
theorem y_makeIface {x : Operand} {t : TypeId} {v : Value} {dsc : TypeDesc} (hx : ev s x = some v) (ht : P.underlying t = some dsc) (hni : ∀ ms, dsc ≠ .interface ms) : Y P H s (.makeInterface t x) (.iface t v) :=
  fun o ρ w ho h _ => ( by
    cases dsc <;> first | exact absurd rfl (hni _) | simp [execOp, ho, h x _ hx, Instr.makeInterface, run_underlying ht])
theorem o_panic {x : Operand} {t : TypeId} {v : Value} {dd : Option Nat} (hx : ev s x = some (.iface t v)) (hk : Q (.panic [{ v := .iface t v, recovered := false }]) ds [] os fs) :
    OpS P ro n E Q ⟨dd, .panic x, ty, p, af, g⟩ K ds s os fs :=
  OpS.panic (by simp) fun a w r => ⟨w, os, fs, by simp [execOp, r.ag.eval hx, Instr.panic, goPanic], r.st, hk⟩
end
end Go.Proofs.Sep
