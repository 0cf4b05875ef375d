/- More operations: least and greatest, arrays, parts of values, nil, building values. -/
import Derived.Test.YtpnhedlciamegaaDoorSepH
import Derived.Lib.Overlaps
import Derived.Lib.MakeNoZero
set_option linter.all false
set_option linter.unnecessarySimpa false
set_option linter.deprecated false
set_option linter.unusedVariables false
set_option linter.unusedSimpArgs false
namespace Go.Proofs.Sep
open Go Go.RowKit

section
variable {P : Program} {ro : Option Nat} {n : Nat} {E : Env} {Q : SQ} {K : SK} {ds : List Deferred} {s : Sto} {os : List Res} {fs : List Frag}
variable {H : World → Prop} {d : Nat} {ty : TypeId} {p : String} {af : Array Edge} {g : Option (Nat × Bool)}

/-! ### least, greatest -/
theorem y_max {x y : Operand} {t u : TypeId} {k : IntKind} {i j : Int} (hx : ev s x = some (.int k i)) (hy : ev s y = some (.int k j)) : Y P H s (.call ⟨.builtin .max, #[x, y], #[t, u]⟩) (.int k (max i j)) :=
  fun o ρ w ho h _ => by
    have e : (if j > i then j else i) = max i j := by omega
    simp [execOp, ho, resolve, invoke, builtin, Builtin.max_, Builtin.max2, h x _ hx, h y _ hy]
    omega
theorem y_min {x y : Operand} {t u : TypeId} {k : IntKind} {i j : Int} (hx : ev s x = some (.int k i)) (hy : ev s y = some (.int k j)) : Y P H s (.call ⟨.builtin .min, #[x, y], #[t, u]⟩) (.int k (min i j)) :=
  fun o ρ w ho h _ => by
    simp [execOp, ho, resolve, invoke, builtin, Builtin.min_, Builtin.min2, h x _ hx, h y _ hy]
    omega
theorem y_xorU {x : Operand} {t : TypeId} {k : IntKind} {i : Int} (hx : ev s x = some (.int k i)) {v : Value} (hv : ∀ w, (Op.intBits .xor k (if k.signed then -1 else k.max) i).run P w = .ok v w) : Y P H s (.unOp .xor t x) v :=
  fun o ρ w ho h _ => by simp [execOp, ho, h x _ hx, Op.unary, hv]

/-! ### bits, said outright -/
def bitI (op : BinOp) (k : IntKind) (i j : Int) : Int :=
  k.wrap (match op with
    | .and => (BitVec.ofInt k.bits i &&& BitVec.ofInt k.bits j).toNat
    | .or => (BitVec.ofInt k.bits i ||| BitVec.ofInt k.bits j).toNat
    | .xor => (BitVec.ofInt k.bits i ^^^ BitVec.ofInt k.bits j).toNat
    | _ => (BitVec.ofInt k.bits i &&& ~~~BitVec.ofInt k.bits j).toNat)
theorem y_bitI {op : BinOp} {x y : Operand} {t u : TypeId} {k : IntKind} {i j : Int} (hx : ev s x = some (.int k i)) (hy : ev s y = some (.int k j)) (ho : op = .and ∨ op = .or ∨ op = .xor ∨ op = .andNot := by simp) :
    Y P H s (.binOp op t x y u) (.int k (bitI op k i j)) :=
  y_bits op ho hx hy (fun w => by rcases ho with rfl | rfl | rfl | rfl <;> rfl)
theorem y_xorI {x : Operand} {t : TypeId} {k : IntKind} {i : Int} (hx : ev s x = some (.int k i)) : Y P H s (.unOp .xor t x) (.int k (bitI .xor k (if k.signed then -1 else k.max) i)) := y_xorU hx (fun w => rfl)

/-! ### nil -/
theorem run_eqlSlNil {t e : TypeId} {A : Option Addr} {l c : Nat} (ht : P.underlying t = some (.slice e)) (w : World) : (Op.equal t (.slice A l c) (.slice none 0 0)).run P w = .ok A.isNone w := by
  have h : ∀ d : Nat, (Op.equalIn (d + 1) t (.slice A l c) (.slice none 0 0)).run P w = .ok A.isNone w := fun d => by cases A <;> simp [Op.equalIn, run_underlying ht]
  exact h 9999
theorem y_eqlNilS {x : Operand} {t e u : TypeId} {A : Option Addr} {l c : Nat} (hx : ev s x = some (.slice A l c)) (ht : P.underlying t = some (.slice e)) : Y P H s (.binOp .eql t x (.const (.slice none 0 0)) u) (.bool A.isNone) :=
  fun o ρ w ho h _ => by
    have hc : ρ (.const (.slice none 0 0)) = .slice none 0 0 := h _ _ rfl
    simp only [execOp, ho, h x _ hx, hc]
    have he : ∀ w, (eqGuard .eql t x (.const (.slice none 0 0)) (.slice A l c) (.slice none 0 0)).run P w = .ok () w := fun w => by unfold eqGuard; simp
    have hb : ∀ w, (binOp .eql t (.slice A l c) (.slice none 0 0)).run P w = .ok (.bool A.isNone) w := fun w => by
      have e : binOp .eql t (.slice A l c) (.slice none 0 0) = (do pure (.bool (← Op.equal t (.slice A l c) (.slice none 0 0)))) := rfl
      rw [e, Sem.run_bind, run_eqlSlNil ht]; rfl
    simp [Sem.run_bind, he, hb]
theorem y_neqNilS {x : Operand} {t e u : TypeId} {A : Option Addr} {l c : Nat} (hx : ev s x = some (.slice A l c)) (ht : P.underlying t = some (.slice e)) : Y P H s (.binOp .neq t x (.const (.slice none 0 0)) u) (.bool (!A.isNone)) :=
  fun o ρ w ho h _ => by
    have hc : ρ (.const (.slice none 0 0)) = .slice none 0 0 := h _ _ rfl
    simp only [execOp, ho, h x _ hx, hc]
    have he : ∀ w, (eqGuard .neq t x (.const (.slice none 0 0)) (.slice A l c) (.slice none 0 0)).run P w = .ok () w := fun w => by unfold eqGuard; simp
    have hb : ∀ w, (binOp .neq t (.slice A l c) (.slice none 0 0)).run P w = .ok (.bool (!A.isNone)) w := fun w => by
      have e : binOp .neq t (.slice A l c) (.slice none 0 0) = (do pure (.bool (!(← Op.equal t (.slice A l c) (.slice none 0 0))))) := rfl
      rw [e, Sem.run_bind, run_eqlSlNil ht]; rfl
    simp [Sem.run_bind, he, hb]
theorem y_eqlPtrNil {x : Operand} {t e u : TypeId} {A : Option Addr} (hx : ev s x = some (.pointer A)) (ht : P.underlying t = some (.pointer e)) : Y P H s (.binOp .eql t x (.const (.pointer none)) u) (.bool A.isNone) :=
  fun o ρ w ho h _ => by
    have hc : ρ (.const (.pointer none)) = .pointer none := h _ _ rfl
    simp only [execOp, ho, h x _ hx, hc]
    have he : ∀ w, (eqGuard .eql t x (.const (.pointer none)) (.pointer A) (.pointer none)).run P w = .ok () w := fun w => by unfold eqGuard; simp
    have hq : ∀ d w, (Op.equalIn (d + 1) t (.pointer A) (.pointer none)).run P w = .ok A.isNone w := fun d w => by cases A <;> simp [Op.equalIn, run_underlying ht]
    have hb : ∀ w, (binOp .eql t (.pointer A) (.pointer none)).run P w = .ok (.bool A.isNone) w := fun w => by
      have e : binOp .eql t (.pointer A) (.pointer none) = (do pure (.bool (← Op.equal t (.pointer A) (.pointer none)))) := by cases A <;> rfl
      have h9 : (Op.equal t (.pointer A) (.pointer none)).run P w = .ok A.isNone w := hq 9999 w
      rw [e, Sem.run_bind, h9]; rfl
    simp [Sem.run_bind, he, hb]
theorem y_neqPtrSame {x y : Operand} {t e u : TypeId} {a : Addr} {k : Nat} (hx : ev s x = some (.pointer (some a))) (hy : ev s y = some (.pointer (some a))) (ht : P.underlying t = some (.pointer e)) (hk : sizeIs P e k = true) : Y P H s (.binOp .neq t x y u) (.bool false) :=
  fun o ρ w ho h _ => by
    simp only [execOp, ho, h x _ hx, h y _ hy]
    unfold sizeIs at hk
    rw [beq_iff_eq] at hk
    obtain ⟨i, hi, _⟩ := Option.map_eq_some_iff.1 hk
    have he : ∀ w, (eqGuard .neq t x y (.pointer (some a)) (.pointer (some a))).run P w = .ok () w := fun w => by unfold eqGuard; simp
    simp [Sem.run_bind, he, Lib.run_neq_ptr_same w a ht hi]

/-! ### arrays -/
theorem run_indexArr {t e : TypeId} {b off len sz : Nat} {k : IntKind} {i : Int} (ht : P.underlying t = some (.array len e)) (hs : sizeIs P e sz = true) (h0 : 0 ≤ i) (h1 : i < len) (w : World) :
    (Instr.indexAt t (.pointer (some ⟨b, off, none⟩)) (.int k i)).run P w = .ok (.pointer (some ⟨b, off + i.toNat * sz, none⟩)) w := by
  simp [Instr.indexAt, Instr.sureAddr, asIntOf, run_underlying ht, h0, h1, run_sizeOf hs, add_mk]
theorem y_indexA {x y : Operand} {t e : TypeId} {b off len sz : Nat} {k : IntKind} {i : Int} (hx : ev s x = some (.pointer (some ⟨b, off, none⟩))) (hy : ev s y = some (.int k i)) (ht : P.underlying t = some (.array len e)) (hs : sizeIs P e sz = true) (h0 : 0 ≤ i) (h1 : i < len) :
    Y P H s (.indexAddr t x y) (.pointer (some ⟨b, off + i.toNat * sz, none⟩)) :=
  fun o ρ w ho h _ => by simp [execOp, ho, h x _ hx, h y _ hy, Sem.run_bind, run_indexArr (k := k) ht hs h0 h1]
theorem y_indexAP {x y : Operand} {t e : TypeId} {φ : Frag} {v : Value} {cs : List Value} {len sz : Nat} {k : IntKind} {i : Int} (hx : ev s x = some v) (hp : Pt φ v cs) (hy : ev s y = some (.int k i)) (ht : P.underlying t = some (.array len e)) (hs : sizeIs P e sz = true) (h0 : 0 ≤ i) (h1 : i < len) :
    ∃ v', Pt φ v' (cs.drop (i.toNat * sz)) ∧ Y P H s (.indexAddr t x y) v' := by
  obtain ⟨b, off, arr, t', fr, rfl, hφ, hrow⟩ := hp
  refine ⟨_, ⟨b, off + i.toNat * sz, arr, t', fr, rfl, hφ, ?_⟩, y_indexA hx hy ht hs h0 h1⟩
  rcases Nat.lt_or_ge (i.toNat * sz) cs.length with h2 | h2
  · rw [take_drop_take _ _ cs.length _ _ (by simp; omega), hrow]
    rw [List.take_of_length_le (Nat.le_refl _)]
  · rw [List.drop_eq_nil_of_le h2]; simp

/-! ### parts of values -/
theorem run_part_scalar {t : TypeId} (ht : scalar P t = true) {cs : Array Value} {off : Nat} {v : Value} (hv : cs[off]? = some v) (w : World) : (part t cs off).run P w = .ok v w := by
  simp [part, Sem.run_bind, run_isAgg_scalar ht, hv]
theorem run_part_agg {t : TypeId} {k : Nat} (ht : aggOf P t k = true) {cs : Array Value} {off : Nat} (w : World) : (part t cs off).run P w = .ok (.agg (cs.extract off (off + k))) w := by
  simp [part, Sem.run_bind, (run_isAgg_agg ht w).1, (run_isAgg_agg ht w).2]
/-- A struct's field: where it begins, its type. -/
def fieldTy (P : Program) (t : TypeId) (f off : Nat) (ft : TypeId) : Bool := match P.underlying t with
  | some (.struct fields) => match fields[f]? with
    | some fl => fl.offset == off && fl.type == ft
    | none => false
  | _ => false
theorem fieldTy_spec {t : TypeId} {f off : Nat} {ft : TypeId} (h : fieldTy P t f off ft = true) : ∃ fields fl, P.underlying t = some (.struct fields) ∧ fields[f]? = some fl ∧ fl.offset = off ∧ fl.type = ft := by
  unfold fieldTy at h
  split at h
  · rename_i fields he
    split at h
    · rename_i fl hf
      rw [Bool.and_eq_true, beq_iff_eq, beq_iff_eq] at h
      exact ⟨fields, fl, he, hf, h.1, h.2⟩
    · cases h
  · cases h
theorem y_fieldV {x : Operand} {t ft : TypeId} {f off : Nat} {cs : List Value} {v : Value} (hx : ev s x = some (.agg cs.toArray)) (hf : fieldTy P t f off ft = true) (hs : scalar P ft = true) (hv : cs[off]? = some v) : Y P H s (.field t x f) v :=
  fun o ρ w ho h _ => by
    obtain ⟨fields, fl, h1, h2, h3, h4⟩ := fieldTy_spec hf
    subst h3; subst h4
    have hp := run_part_scalar (P := P) hs (cs := cs.toArray) (off := fl.offset) (v := v) (by simpa using hv) w
    simp [execOp, ho, h x _ hx, Sem.run_bind, Instr.field, run_underlying h1, h2, asAgg, hp]
theorem y_fieldVA {x : Operand} {t ft : TypeId} {f off k : Nat} {cs : List Value} (hx : ev s x = some (.agg cs.toArray)) (hf : fieldTy P t f off ft = true) (hs : aggOf P ft k = true) : Y P H s (.field t x f) (.agg ((cs.drop off).take k).toArray) :=
  fun o ρ w ho h _ => by
    obtain ⟨fields, fl, h1, h2, h3, h4⟩ := fieldTy_spec hf
    subst h3; subst h4
    have hp := run_part_agg (P := P) hs (cs := cs.toArray) (off := fl.offset) w
    have e : cs.toArray.extract fl.offset (fl.offset + k) = ((cs.drop fl.offset).take k).toArray := by apply Array.ext'; simp [List.extract_eq_take_drop]
    rw [e] at hp
    simp [execOp, ho, h x _ hx, Sem.run_bind, Instr.field, run_underlying h1, h2, asAgg, hp]
theorem y_indexV {x y : Operand} {t e : TypeId} {len sz : Nat} {cs : List Value} {k : IntKind} {i : Int} {v : Value} (hx : ev s x = some (.agg cs.toArray)) (hy : ev s y = some (.int k i)) (ht : P.underlying t = some (.array len e)) (hs : sizeIs P e sz = true) (hsc : scalar P e = true) (h0 : 0 ≤ i) (h1 : i < len)
    (hv : cs[i.toNat * sz]? = some v) : Y P H s (.index t x y) v :=
  fun o ρ w ho h _ => by
    have hp := run_part_scalar (P := P) hsc (cs := cs.toArray) (off := i.toNat * sz) (v := v) (by simpa using hv) w
    simp [execOp, ho, h x _ hx, h y _ hy, Sem.run_bind, Instr.index, asIntOf, run_underlying ht, h0, h1, run_sizeOf hs, hp]
theorem y_indexVA {x y : Operand} {t e : TypeId} {len sz : Nat} {cs : List Value} {k : IntKind} {i : Int} (hx : ev s x = some (.agg cs.toArray)) (hy : ev s y = some (.int k i)) (ht : P.underlying t = some (.array len e)) (hs : sizeIs P e sz = true) (hsc : aggOf P e sz = true) (h0 : 0 ≤ i) (h1 : i < len) :
    Y P H s (.index t x y) (.agg ((cs.drop (i.toNat * sz)).take sz).toArray) :=
  fun o ρ w ho h _ => by
    have hp := run_part_agg (P := P) hsc (cs := cs.toArray) (off := i.toNat * sz) w
    have e2 : cs.toArray.extract (i.toNat * sz) (i.toNat * sz + sz) = ((cs.drop (i.toNat * sz)).take sz).toArray := by apply Array.ext'; simp [List.extract_eq_take_drop]
    rw [e2] at hp
    simp [execOp, ho, h x _ hx, h y _ hy, Sem.run_bind, Instr.index, asIntOf, run_underlying ht, h0, h1, run_sizeOf hs, hp]

/-! ### building values -/
/-- Where the fields of a struct begin, and their sizes. -/
def places (P : Program) (t : TypeId) : Option (List (Nat × Nat)) := match P.underlying t with
  | some (.struct fields) => fields.toList.mapM fun f => (P.info? f.type).map fun i => (f.offset, i.size)
  | _ => none
theorem run_places {fields : List Field} {pl : List (Nat × Nat)} (h : fields.mapM (fun f => (P.info? f.type).map fun i => (f.offset, i.size)) = some pl) (w : World) : (fields.mapM (fun f => do pure (f.offset, ← sizeOf f.type) : Field → Sem (Nat × Nat))).run P w = .ok pl w := by
  induction fields generalizing pl with
  | nil => simp at h; subst h; rfl
  | cons f r ih =>
    rw [List.mapM_cons] at h
    cases h1 : P.info? f.type with
    | none => rw [h1] at h; simp at h
    | some i =>
      cases h2 : r.mapM (fun f => (P.info? f.type).map fun i => (f.offset, i.size)) with
      | none => rw [h1, h2] at h; simp at h
      | some pl' =>
        rw [h1, h2] at h
        simp at h
        subst h
        have h3 : (do pure (f.offset, ← sizeOf f.type) : Sem (Nat × Nat)).run P w = .ok (f.offset, i.size) w := by simp [Sem.run_bind, sizeOf, typeInfo, h1]
        rw [List.mapM_cons, Sem.run_bind, h3, Result.andThen_ok, Sem.run_bind, ih h2]
        rfl
theorem y_build {t : TypeId} {parts : Array (Nat × Operand)} {z : Value} {sz by_ : Nat} {pl : List (Nat × Nat)} {pv : List (Nat × Value)} {cs : Array Value} (hz : zeroIs P t z sz by_) (hpl : places P t = some pl) (hp : parts.toList.mapM (fun q => (ev s q.2).map fun v => (q.1, v)) = some pv)
    (hfill : Instr.fill (fun i => pl[i]?) z.cells pv = some cs) : Y P H s (.build t parts) (.agg cs) :=
  fun o ρ w ho h _ => by
    obtain ⟨i, hi, he⟩ := Option.map_eq_some_iff.1 hz
    simp only [Prod.mk.injEq] at he
    unfold places at hpl
    split at hpl
    · rename_i fields hf
      have key : ∀ (l : List (Nat × Operand)) (c : List (Nat × Value)), l.mapM (fun q => (ev s q.2).map fun v => (q.1, v)) = some c → l.map (fun q => (q.1, ρ q.2)) = c := by
        intro l
        induction l with
        | nil => intro c hc; simp at hc; simp [hc]
        | cons q l ih =>
          intro c hc
          rw [List.mapM_cons] at hc
          cases hq : ev s q.2 with
          | none => rw [hq] at hc; simp at hc
          | some v =>
            cases hl : l.mapM (fun q => (ev s q.2).map fun v => (q.1, v)) with
            | none => rw [hq, hl] at hc; simp at hc
            | some c' =>
              rw [hq, hl] at hc
              simp at hc
              subst hc
              simp [h _ _ hq, ih _ hl]
      have e1 : (parts.map fun (i, x) => (i, ρ x)).toList = pv := by rw [Array.toList_map]; exact key _ _ hp
      have hr := run_places hpl w
      have e2 : (fields.mapM (fun f => do pure (f.offset, ← sizeOf f.type) : Field → Sem (Nat × Nat))).run P w = .ok pl.toArray w := by
        rw [← Array.toArray_toList (xs := fields), List.mapM_toArray, Sem.run_map]
        rw [hr]; rfl
      have e3 : (fun x : Nat => pl.toArray[x]?) = fun i : Nat => pl[i]? := by funext x; simp
      have hb : (Instr.build t (parts.map fun (i, x) => (i, ρ x))).run P w = .ok (.agg cs) w := by
        have hz2 : (zeroValue t).run P w = .ok z w := by simp [zeroValue, typeInfo, Sem.run_bind, hi, he.1]
        unfold Instr.build
        rw [Sem.run_bind, hz2, Result.andThen_ok, Sem.run_bind, run_underlying hf, Result.andThen_ok]
        simp only [Sem.run_bind, e1]
        rw [e2, Result.andThen_ok, e3, hfill]
        rfl
      simp [execOp, ho, Sem.run_bind, hb]
    · cases hpl
end
end Go.Proofs.Sep
