/- Numbers that are natural, arrays' cells, slices of arrays, copies, results in cells. -/
import Derived.Test.YtpnhedlciamegaaDoorSepK
set_option linter.all false
set_option linter.unnecessarySimpa false
set_option linter.deprecated false
set_option linter.unusedVariables false
set_option linter.unusedSimpArgs false
namespace Go.Proofs.Sep
open Go Go.RowKit
section
variable {P : Program} {ro : Option Nat} {n : Nat} {E : Env} {Q : SQ} {K : SK} {ds : List Deferred} {s : Sto} {os : List Res} {fs : List Frag}
variable {H : World → Prop} {d : Nat} {ty : TypeId} {p : String} {af : Array Edge} {g : Option (Nat × Bool)}

/-! ### natural numbers -/
section
variable {x y : Operand} {t u : TypeId} {k : IntKind} {i j : Nat}
theorem y_addN (hx : ev s x = some (.int .i64 (i : Int))) (hy : ev s y = some (.int .i64 (j : Int))) (hb : i + j ≤ 9223372036854775807) : Y P H s (.binOp .add t x y u) (.int .i64 ((i + j : Nat) : Int)) := by
  have := y_addI (P := P) (H := H) (t := t) (u := u) hx hy (by omega)
  rwa [← Int.natCast_add] at this
theorem y_mulN (hx : ev s x = some (.int .i64 (i : Int))) (hy : ev s y = some (.int .i64 (j : Int))) (hb : i * j ≤ 9223372036854775807) : Y P H s (.binOp .mul t x y u) (.int .i64 ((i * j : Nat) : Int)) := by
  have h1 : ((i * j : Nat) : Int) = (i : Int) * j := Int.natCast_mul i j
  have := y_mulI (P := P) (H := H) (t := t) (u := u) hx hy (by rw [← h1]; omega)
  rwa [← h1] at this
theorem y_subN (hx : ev s x = some (.int .i64 (i : Int))) (hy : ev s y = some (.int .i64 (j : Int))) (hb : j ≤ i) (hm : i ≤ 9223372036854775807) : Y P H s (.binOp .sub t x y u) (.int .i64 ((i - j : Nat) : Int)) := by
  have := y_subI (P := P) (H := H) (t := t) (u := u) hx hy (by omega)
  have h1 : (i : Int) - j = ((i - j : Nat) : Int) := by omega
  rwa [h1] at this
theorem y_remN (hx : ev s x = some (.int k (i : Int))) (hy : ev s y = some (.int k (j : Int))) (hj : j ≠ 0) : Y P H s (.binOp .rem t x y u) (.int k ((i % j : Nat) : Int)) := by
  have := y_rem (P := P) (H := H) (t := t) (u := u) hx hy (by omega)
  rwa [Int.ofNat_tmod]
theorem y_quoN (hx : ev s x = some (.int .i64 (i : Int))) (hy : ev s y = some (.int .i64 (j : Int))) (hj : j ≠ 0) (hm : i ≤ 9223372036854775807) : Y P H s (.binOp .quo t x y u) (.int .i64 ((i / j : Nat) : Int)) := by
  have := y_quo (P := P) (H := H) (t := t) (u := u) hx hy (by omega)
  have h1 : (i : Int).tdiv j = ((i / j : Nat) : Int) := (Int.ofNat_tdiv i j).symm
  have h2 : i / j ≤ i := Nat.div_le_self i j
  rw [h1] at this
  generalize i / j = q at *
  rw [wrap_i64_id (by omega) (by omega)] at this
  exact this
theorem y_lssN (hx : ev s x = some (.int k (i : Int))) (hy : ev s y = some (.int k (j : Int))) : Y P H s (.binOp .lss t x y u) (.bool (decide (i < j))) := by
  have := y_lss (P := P) (H := H) (t := t) (u := u) hx hy
  have e : decide ((i : Int) < j) = decide (i < j) := by simp
  rwa [e] at this
theorem y_geqN (hx : ev s x = some (.int k (i : Int))) (hy : ev s y = some (.int k (j : Int))) : Y P H s (.binOp .geq t x y u) (.bool (decide (j ≤ i))) := by
  have := y_geq (P := P) (H := H) (t := t) (u := u) hx hy
  have e : decide ((j : Int) ≤ i) = decide (j ≤ i) := by simp
  rwa [e] at this
end

/-! ### arrays of one-cell elements -/
theorem y_indexA1 {x y : Operand} {t e : TypeId} {b len i : Nat} {k : IntKind} (hx : ev s x = some (.pointer (some ⟨b, 0, none⟩))) (hy : ev s y = some (.int k (i : Int))) (ht : P.underlying t = some (.array len e)) (hs : sizeIs P e 1 = true) (h1 : i < len) :
    Y P H s (.indexAddr t x y) (.pointer (some ⟨b, i, none⟩)) := by
  have := y_indexA (P := P) (H := H) hx hy ht hs (by omega) (by omega)
  have e1 : 0 + ((i : Int)).toNat * 1 = i := by omega
  rwa [e1] at this
theorem y_indexR1 {x y : Operand} {t e : TypeId} {l gb cap i : Nat} {k : IntKind} (hx : ev s x = some (.slice (some ⟨gb, 0, none⟩) l cap)) (hy : ev s y = some (.int k (i : Int))) (ht : P.underlying t = some (.slice e)) (hs : sizeIs P e 1 = true) (h1 : i < l) :
    Y P H s (.indexAddr t x y) (.pointer (some ⟨gb, i, none⟩)) := by
  have := y_indexR (P := P) (H := H) hx hy ht hs (by omega) (by omega)
  have e1 : 0 + ((i : Int)).toNat * 1 = i := by omega
  rwa [e1] at this
theorem y_indexVN {x y : Operand} {t e : TypeId} {len i : Nat} {cs : List Value} {k : IntKind} {v : Value} (hx : ev s x = some (.agg cs.toArray)) (hy : ev s y = some (.int k (i : Int))) (ht : P.underlying t = some (.array len e)) (hs : sizeIs P e 1 = true) (hsc : scalar P e = true) (h1 : i < len) (hv : cs[i]? = some v) : Y P H s (.index t x y) v :=
  y_indexV hx hy ht hs hsc (by omega) (by omega) (by rw [Int.toNat_natCast, Nat.mul_one]; exact hv)

/-! ### slices of an array -/
theorem run_sliceArr {t e : TypeId} {b off len sz i j : Nat} (ht : P.underlying t = some (.array len e)) (hs : sizeIs P e sz = true) {ρ : Operand → Value} {x : Operand} {lo hi : Option Operand} (hx : ρ x = .pointer (some ⟨b, off, none⟩))
    (hlo : match lo with | none => i = 0 | some y => ∃ k, ρ y = .int k (i : Int)) (hhi : match hi with | none => j = len | some y => ∃ k, ρ y = .int k (j : Int)) (hij : i ≤ j) (hj : j ≤ len) (w : World) :
    (Instr.sliceAt t (ρ x) (lo.map ρ) (hi.map ρ) none).run P w = .ok (.slice (some (if len = i then ⟨b, off, none⟩ else ⟨b, off + i * sz, none⟩)) (j - i) (len - i)) w := by
  have h1 : ((i : Int)) ≤ (j : Int) := by omega
  have h2 : ((j : Int)) ≤ (len : Int) := by omega
  rw [hx]
  cases lo <;> cases hi <;> simp only at hlo hhi
  · subst hlo; subst hhi
    simp [Instr.sliceAt, Instr.sureAddr, Instr.sliceBounds, run_underlying ht, run_sizeOf hs, add_mk]
  · subst hlo
    obtain ⟨k, hhi⟩ := hhi
    simp [Instr.sliceAt, Instr.sureAddr, Instr.sliceBounds, Instr.sliceBound, asIntOf, hhi, run_underlying ht, run_sizeOf hs, h2, hj, add_mk]
  · subst hhi
    obtain ⟨k, hlo⟩ := hlo
    simp [Instr.sliceAt, Instr.sureAddr, Instr.sliceBounds, Instr.sliceBound, asIntOf, hlo, run_underlying ht, run_sizeOf hs, h1, hij, add_mk]
  · obtain ⟨k, hlo⟩ := hlo
    obtain ⟨k2, hhi⟩ := hhi
    simp [Instr.sliceAt, Instr.sureAddr, Instr.sliceBounds, Instr.sliceBound, asIntOf, hlo, hhi, run_underlying ht, run_sizeOf hs, h1, h2, hij, hj, add_mk]
theorem y_sliceA {x : Operand} {t e : TypeId} {b off len sz i j : Nat} {lo hi : Option Operand} (hx : ev s x = some (.pointer (some ⟨b, off, none⟩))) (ht : P.underlying t = some (.array len e)) (hs : sizeIs P e sz = true)
    (hlo : match lo with | none => i = 0 | some y => ∃ k, ev s y = some (.int k (i : Int))) (hhi : match hi with | none => j = len | some y => ∃ k, ev s y = some (.int k (j : Int))) (hij : i ≤ j) (hj : j ≤ len) :
    Y P H s (.slice t x lo hi none) (.slice (some (if len = i then ⟨b, off, none⟩ else ⟨b, off + i * sz, none⟩)) (j - i) (len - i)) := fun o ρ w ho h _ => by
  have := run_sliceArr (P := P) (i := i) (j := j) ht hs (ρ := ρ) (x := x) (lo := lo) (hi := hi) (h x _ hx)
    (by cases lo with | none => exact hlo | some y => exact let ⟨k, hk⟩ := hlo; ⟨k, h _ _ hk⟩) (by cases hi with | none => exact hhi | some y => exact let ⟨k, hk⟩ := hhi; ⟨k, h _ _ hk⟩) hij hj w
  simp [execOp, ho, Sem.run_bind, this]

/-! ### copies -/
theorem run_copyCells {t t2 ty e : TypeId} {sz : Nat} (ht : P.underlying t = some (.slice e)) (hs : sizeIs P e sz = true) {w : World} {g o dLen dCap : Nat} {a : Addr} {sLen sCap : Nat} {cur : Array Value} {te : TypeId} {cs : List Value}
    (hg : w.heap[g]? = some (.cells cur te (0, 0))) (hn : cs.length = Nat.min sLen dLen * sz) (hsrc : ∀ j v, cs[j]? = some v → w.cell? (a.add j) = some v) (hfit : o + cs.length ≤ cur.size) (h1 : ∀ v ∈ cs, v.oneCell' = true) :
    (Builtin.copy_ #[t, t2] ty #[.slice (some ⟨g, o, none⟩) dLen dCap, .slice (some a) sLen sCap]).run P w = .ok (.int .i64 ((Nat.min sLen dLen : Nat) : Int)) (w.setRow g (cur.toList.take o ++ cs ++ cur.toList.drop (o + cs.length)).toArray) := by
  have hl := run_loadCells_list (P := P) w a cs hsrc
  have hst := run_storeCells_at P g o te cs 0 cur w hg (by simpa using hfit) h1
  rw [hn] at hl
  simp [Builtin.copy_, run_underlying ht, run_sizeOf hs, Builtin.lenOf, Builtin.firstCells, hl, hst, goInt]
/-- From one block of cells to one (or the same), elements of one cell. -/
theorem o_copyA (i j : Nat) {x y : Operand} {t t2 e te te2 : TypeId} {b b2 o1 o2 l1 l2 c1 c2 : Nat} {cs cs2 vs : List Value} (hx : ev s x = some (.slice (some ⟨b, o1, none⟩) l1 c1)) (hy : ev s y = some (.slice (some ⟨b2, o2, none⟩) l2 c2)) (hr : os[i]? = some (cel b te cs)) (hr2 : os[j]? = some (cel b2 te2 cs2))
    (ht : P.underlying t = some (.slice e)) (hs : sizeIs P e 1 = true) (hvs : (cs2.drop o2).take (Nat.min l2 l1) = vs) (hvl : vs.length = Nat.min l2 l1) (hfit : o1 + vs.length ≤ cs.length) (h1 : ∀ v ∈ vs, v.oneCell' = true)
    (hk : K ds ((d, .int .i64 ((Nat.min l2 l1 : Nat) : Int)) :: s) (os.set i (cel b te (cs.take o1 ++ vs ++ cs.drop (o1 + vs.length)))) fs) (hd : Nat.blt d n = true := by rfl) :
    OpS P ro n E Q ⟨some d, .call ⟨.builtin .copy, #[x, y], #[t, t2]⟩, ty, p, af, g⟩ K ds s os fs :=
  OpS.val (by simp) rfl hd fun a w r => by
    have hb : w.heap[b]? = some (.cells cs.toArray te (0, 0)) := r.st.holds _ (List.mem_of_getElem? hr)
    have hb2 := r.st.holds _ (List.mem_of_getElem? hr2)
    have hrun := run_copyCells (P := P) (t2 := t2) (ty := ty) (dLen := l1) (dCap := c1) (sLen := l2) (sCap := c2) ht hs hb (a := ⟨b2, o2, none⟩) (cs := vs) (o := o1) (by omega) (fun q u hu => by
      rw [add_mk]
      have hq := (List.getElem?_eq_some_iff.1 hu).1
      rw [← hvs, List.getElem?_take, if_pos (by omega), List.getElem?_drop] at hu
      exact cel_cells hb2 hu) (by simpa using hfit) h1
    refine ⟨_, w.setRow b (cs.take o1 ++ vs ++ cs.drop (o1 + vs.length)).toArray, os.set i (cel b te (cs.take o1 ++ vs ++ cs.drop (o1 + vs.length))), fs, ?_, ?_, hk⟩
    · simp only [execOp, resolve, invoke, builtin, Sem.run_bind, Sem.run_pure, Result.andThen_ok, List.map_toArray, List.map_cons, List.map_nil, r.ag.eval hx, r.ag.eval hy, hrun]
    · exact r.st.turnAt hr (keep_setRow w b _) (by simp [Res.foot]) (setRow_heap w b _ _ te (0, 0) hb) (fun b' h => .inl h)

/-! ### results in cells -/
theorem run_loadRes {t : TypeId} {cs : List Value} (ht : aggOf P t cs.length = true) {w : World} {b : Nat} {te : TypeId} (h : (cel b te cs).holds w) : (loadVar t ⟨b, 0, none⟩).run P w = .ok (.agg cs.toArray) w := by
  have := run_load_agg (P := P) (t := t) (cs := cs) ht (w := w) (b := b) (off := 0) (fun j u hu => by rw [Nat.zero_add]; exact cel_cells h hu)
  simpa [Instr.loadAt, Instr.sureAddr] using this
variable {fn : Func} {post : Ending → List Res → List Frag → Prop}
theorem retC {t : Tmp} {rt te : TypeId} {b : Nat} {cs : List Value} (i : Nat) (hr : fn.results = #[.cell t rt]) (ht : Sto.get s t = some (.pointer (some ⟨b, 0, none⟩))) (ho : os[i]? = some (cel b te cs)) (ha : aggOf P rt cs.length = true) (os' : List Res) (fs' : List Frag)
    (hp : post (.returned (.agg cs.toArray)) os' fs') (hos : os'.Sublist os) (hf : ∀ φ ∈ fs', φ ∈ fs) : RetQ P fn n E post .ret [] s os fs :=
  ⟨[], os, rfl, List.Perm.refl _, _, os', fs', fun a w r => by
    have h1 := run_loadRes ha (r.st.holds _ (List.mem_of_getElem? ho))
    simp [results, hr, Array.getD_eq_getD_getElem?, r.ag.vals t _ ht, asAddr, h1], hos, hf, hp⟩
theorem retCT {t u : Tmp} {rt te : TypeId} {b : Nat} {cs : List Value} {x : Value} (i : Nat) (hr : fn.results = #[.cell t rt, .tmp u]) (ht : Sto.get s t = some (.pointer (some ⟨b, 0, none⟩))) (ho : os[i]? = some (cel b te cs)) (ha : aggOf P rt cs.length = true) (hu : Sto.get s u = some x) (os' : List Res) (fs' : List Frag)
    (hp : post (.returned (.tuple #[.agg cs.toArray, x])) os' fs') (hos : os'.Sublist os) (hf : ∀ φ ∈ fs', φ ∈ fs) : RetQ P fn n E post .ret [] s os fs :=
  ⟨[], os, rfl, List.Perm.refl _, .tuple #[.agg cs.toArray, x], os', fs', fun a w r => by
    have h1 := run_loadRes ha (r.st.holds _ (List.mem_of_getElem? ho))
    simp [results, hr, Array.getD_eq_getD_getElem?, r.ag.vals t _ ht, r.ag.vals u _ hu, asAddr, h1], hos, hf, hp⟩
end
end Go.Proofs.Sep
namespace Go.Proofs.Sep
open Go Go.RowKit
section
variable {P : Program} {ro : Option Nat} {n : Nat} {E : Env} {Q : SQ} {K : SK} {ds : List Deferred} {s : Sto} {os : List Res} {fs : List Frag}
/-- One of what is owned, said otherwise. -/
theorem W.reO {c : Code} (i : Nat) (r' : Res) {r : Res} (h : os[i]? = some r) (he : r = r') (k : W P ro n E c Q ds s (os.set i r') fs) : W P ro n E c Q ds s os fs := by
  subst he
  rwa [set_same h] at k
theorem W.asO {c : Code} (os' : List Res) (h : os = os') (k : W P ro n E c Q ds s os' fs) : W P ro n E c Q ds s os fs := by
  subst h; exact k
theorem W.asS {c : Code} (s' : Sto) (h : s = s') (k : W P ro n E c Q ds s' os fs) : W P ro n E c Q ds s os fs := by
  subst h; exact k
theorem WL.reO {ops : Array Oper} {l : List Oper} (i : Nat) (r' : Res) {r : Res} (h : os[i]? = some r) (he : r = r') (k : WL P ro n E ops Q l ds s (os.set i r') fs) : WL P ro n E ops Q l ds s os fs := by
  subst he
  rwa [set_same h] at k
end
end Go.Proofs.Sep
