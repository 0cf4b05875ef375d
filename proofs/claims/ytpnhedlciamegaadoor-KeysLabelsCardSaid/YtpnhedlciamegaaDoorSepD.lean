/- Memory: blocks of cells, rows, read-only slices. -/
import Derived.Test.YtpnhedlciamegaaDoorSepC
set_option linter.all false
set_option linter.unnecessarySimpa false
set_option linter.deprecated false
set_option linter.unusedVariables false
set_option linter.unusedSimpArgs false
namespace Go.Proofs.Sep
open Go Go.RowKit

/-- A block of plain cells. -/
@[reducible] def cel (b : Nat) (t : TypeId) (cs : List Value) : Res := .blk b (.cells cs.toArray t (0, 0))
/-- A slice read in φ: its elements, each a list of sz cells. -/
def Sl (φ : Frag) (v : Value) (sz : Nat) (ess : List (List Value)) : Prop :=
  (∀ x ∈ ess, x.length = sz) ∧ ess.length ≤ 9223372036854775807 ∧ ∃ A cap, v = .slice A ess.length cap ∧ ess.length ≤ cap ∧
    (0 < ess.length → ∃ b off arr t fr, A = some ⟨b, off, none⟩ ∧ φ b = some (.cells arr t fr) ∧ (arr.toList.drop off).take ess.flatten.length = ess.flatten)
/-- A pointer at cells read in φ. -/
def Pt (φ : Frag) (v : Value) (cs : List Value) : Prop :=
  ∃ b off arr t fr, v = .pointer (some ⟨b, off, none⟩) ∧ φ b = some (.cells arr t fr) ∧ (arr.toList.drop off).take cs.length = cs

theorem add_mk (b off j : Nat) : (⟨b, off, none⟩ : Addr).add j = ⟨b, off + j, none⟩ := by unfold Addr.add; split <;> simp_all
theorem flatten_length {sz : Nat} : ∀ {ess : List (List Value)}, (∀ x ∈ ess, x.length = sz) → ess.flatten.length = ess.length * sz
  | [], _ => by simp
  | x :: r, h => by
    rw [List.flatten_cons, List.length_append, flatten_length (fun y hy => h y (List.mem_cons_of_mem _ hy)), h x List.mem_cons_self, List.length_cons, Nat.add_mul]
    omega
theorem flatten_drop {sz : Nat} : ∀ {ess : List (List Value)} (i : Nat), (∀ x ∈ ess, x.length = sz) → ess.flatten.drop (i * sz) = (ess.drop i).flatten
  | [], i, _ => by simp
  | x :: r, 0, _ => by simp
  | x :: r, i + 1, h => by
    have hx := h x List.mem_cons_self
    rw [List.flatten_cons, List.drop_succ_cons, ← flatten_drop i (fun y hy => h y (List.mem_cons_of_mem _ hy)), List.drop_append, hx]
    have e1 : (i + 1) * sz - sz = i * sz := by rw [Nat.add_mul]; omega
    rw [e1, List.drop_eq_nil_of_le (by rw [hx, Nat.add_mul]; omega), List.nil_append]
theorem flatten_take {sz : Nat} : ∀ {ess : List (List Value)} (i : Nat), (∀ x ∈ ess, x.length = sz) → ess.flatten.take (i * sz) = (ess.take i).flatten
  | [], i, _ => by simp
  | x :: r, 0, _ => by simp
  | x :: r, i + 1, h => by
    have hx := h x List.mem_cons_self
    rw [List.flatten_cons, List.take_succ_cons, List.flatten_cons, ← flatten_take i (fun y hy => h y (List.mem_cons_of_mem _ hy)), List.take_append, hx]
    have e1 : (i + 1) * sz - sz = i * sz := by rw [Nat.add_mul]; omega
    rw [e1, List.take_of_length_le (by rw [hx, Nat.add_mul]; omega)]
theorem take_drop_take {α : Type} (l : List α) (off n i k : Nat) (h : i + k ≤ n) : (l.drop (off + i)).take k = (((l.drop off).take n).drop i).take k := by
  rw [List.drop_take, List.drop_drop, List.take_take, Nat.min_eq_left (by omega)]

theorem Sl.pt {φ : Frag} {v : Value} {sz : Nat} {ess : List (List Value)} (h : Sl φ v sz ess) {i : Nat} {x : List Value} (hx : ess[i]? = some x) :
    ∃ b off cap, v = .slice (some ⟨b, off, none⟩) ess.length cap ∧ Pt φ (.pointer (some ⟨b, off + i * sz, none⟩)) x := by
  have hi := (List.getElem?_eq_some_iff.1 hx).1
  obtain ⟨h1, _, A, cap, rfl, _, h2⟩ := h
  obtain ⟨b, off, arr, t, fr, rfl, hφ, hrow⟩ := h2 (by omega)
  refine ⟨b, off, cap, rfl, b, off + i * sz, arr, t, fr, rfl, hφ, ?_⟩
  have hl := flatten_length h1
  have hxl : x.length = sz := h1 x (List.mem_of_getElem? hx)
  have hfit : i * sz + x.length ≤ ess.flatten.length := by
    rw [hl, hxl]
    have : (i + 1) * sz ≤ ess.length * sz := Nat.mul_le_mul_right _ (by omega)
    rw [Nat.add_mul] at this; omega
  rw [take_drop_take _ _ _ _ _ hfit, hrow, flatten_drop i h1]
  have e : ess.drop i = x :: ess.drop (i + 1) := by
    rw [List.drop_eq_getElem_cons hi]
    congr 1
    exact (List.getElem?_eq_some_iff.1 hx).2
  rw [e, List.flatten_cons, List.take_left]

theorem Pt.cells {φ : Frag} {w : World} {b off : Nat} {cs : List Value} (h : Pt φ (.pointer (some ⟨b, off, none⟩)) cs) (hs : Sub φ w) : ∀ j u, cs[j]? = some u → w.cell? ⟨b, off + j, none⟩ = some u := by
  obtain ⟨b', off', arr, t, fr, he, hφ, hrow⟩ := h
  cases he
  intro j u hu
  have hh := hs b _ hφ
  rw [cell_of_row w b (off + j) arr t fr hh]
  have hj := (List.getElem?_eq_some_iff.1 hu).1
  rw [← hrow, List.getElem?_take, if_pos hj, List.getElem?_drop] at hu
  simpa using hu

/-! ### Types, as far as they are asked -/
def scalar (P : Program) (t : TypeId) : Bool := match P.underlying t with
  | some (.struct _) => false
  | some (.array _ _) => false
  | some _ => true
  | none => false
theorem run_isAgg_scalar {P : Program} {t : TypeId} (h : scalar P t = true) (w : World) : (isAgg t).run P w = .ok false w := by
  unfold scalar at h
  unfold isAgg
  split at h
  · cases h
  · cases h
  · rename_i d hd1 hd2 he
    rw [Sem.run_bind, run_underlying he]
    cases d <;> first | rfl | (exact absurd rfl (hd1 _)) | (exact absurd rfl (hd2 _ _))
  · cases h
def aggOf (P : Program) (t : TypeId) (k : Nat) : Bool := (match P.underlying t with
  | some (.struct _) => true
  | some (.array _ _) => true
  | _ => false) && (P.info? t).map (·.size) == some k
theorem run_isAgg_agg {P : Program} {t : TypeId} {k : Nat} (h : aggOf P t k = true) (w : World) : (isAgg t).run P w = .ok true w ∧ (sizeOf t).run P w = .ok k w := by
  unfold aggOf at h
  rw [Bool.and_eq_true, beq_iff_eq] at h
  obtain ⟨h1, h2⟩ := h
  refine ⟨?_, ?_⟩
  · unfold isAgg
    split at h1
    · rename_i f he; rw [Sem.run_bind, run_underlying he]; rfl
    · rename_i n e he; rw [Sem.run_bind, run_underlying he]; rfl
    · cases h1
  · obtain ⟨i, hi, rfl⟩ := Option.map_eq_some_iff.1 h2
    simp [sizeOf, typeInfo, hi]
def sizeIs (P : Program) (t : TypeId) (k : Nat) : Bool := (P.info? t).map (·.size) == some k
theorem run_sizeOf {P : Program} {t : TypeId} {k : Nat} (h : sizeIs P t k = true) (w : World) : (sizeOf t).run P w = .ok k w := by
  unfold sizeIs at h
  rw [beq_iff_eq] at h
  obtain ⟨i, hi, rfl⟩ := Option.map_eq_some_iff.1 h
  simp [sizeOf, typeInfo, hi]
/-- A struct's field: where it begins; it is not of size 0. -/
def fieldIs (P : Program) (t : TypeId) (f off : Nat) : Bool := match P.underlying t with
  | some (.struct fields) => match fields[f]? with
    | some fl => fl.offset == off && (match (P.info? fl.type).map (·.size) with | some (_ + 1) => true | _ => false)
    | none => false
  | _ => false
theorem run_fieldAt {P : Program} {t : TypeId} {f o : Nat} (h : fieldIs P t f o = true) (b off : Nat) (w : World) :
    (Instr.fieldAt t (.pointer (some ⟨b, off, none⟩)) f).run P w = .ok (.pointer (some ⟨b, off + o, none⟩)) w := by
  unfold fieldIs at h
  split at h
  · rename_i fields he
    split at h
    · rename_i fl hf
      rw [Bool.and_eq_true, beq_iff_eq] at h
      obtain ⟨rfl, h2⟩ := h
      split at h2
      · rename_i k hk
        obtain ⟨i, hi, hs⟩ := Option.map_eq_some_iff.1 hk
        simp [Instr.fieldAt, run_underlying he, hf, Instr.sureAddr, fieldPlace, sizeOf, typeInfo, hi, hs, add_mk]
      · cases h2
    · cases h
  · cases h
@[reducible] def zeroIs (P : Program) (t : TypeId) (z : Value) (sz by_ : Nat) : Prop := (P.info? t).map (fun i => (i.zero, i.size, i.bytes)) = some (some z, sz, by_)

/-! ### Positions in the list of what is owned -/
theorem perm_at {os : List Res} {i : Nat} {r : Res} (h : os[i]? = some r) : os.Perm (r :: os.eraseIdx i) := by
  induction os generalizing i with
  | nil => simp at h
  | cons a l ih =>
    cases i with
    | zero => simp at h; subst h; simp
    | succ i =>
      simp at h
      rw [List.eraseIdx_cons_succ]
      exact ((ih h).cons a).trans (List.Perm.swap _ _ _)
theorem perm_set {os : List Res} {i : Nat} {r r' : Res} (h : os[i]? = some r) : (r' :: os.eraseIdx i).Perm (os.set i r') := by
  induction os generalizing i with
  | nil => simp at h
  | cons a l ih =>
    cases i with
    | zero => simp
    | succ i =>
      simp at h
      rw [List.eraseIdx_cons_succ, List.set_cons_succ]
      exact (List.Perm.swap _ _ _).trans ((ih h).cons a)
theorem St.turnAt {w0 : World} {S : List Nat} {F0 : List Frag} {w : World} {os : List Res} {fs : List Frag} {i : Nat} {r r' : Res} (hi : os[i]? = some r) (h : St w0 S F0 w os fs) {w' : World} {T : List Nat}
    (k : Keep T w w') (hT : ∀ i ∈ T, r.foot = some i) (hr' : r'.holds w') (hf : ∀ b, r'.foot = some b → r.foot = some b ∨ w.heap.size ≤ b) : St w0 S F0 w' (os.set i r') fs :=
  ((h.perm (perm_at hi)).turn k hT hr' hf).perm (perm_set hi)

theorem keep_setRow (w : World) (g : Nat) (cs : Array Value) : Keep [g] w (w.setRow g cs) :=
  ⟨rfl, rfl, rfl, by simp [World.setRow], fun i hi hn => setRow_other w g i cs (by simpa using hn)⟩
theorem keep_alloc (w : World) (o : Obj) : Keep [] w (w.alloc o) := ⟨rfl, rfl, rfl, by simp, fun i hi _ => Below.heap_alloc w o i hi⟩
theorem keep_grown {w w' : World} {v : Value} (h : w.grownBy w' v.ownBlock) : Keep v.ownBlock.toList w w' :=
  ⟨h.os, h.tape, h.output, h.size, fun i hi hn => h.block i hi (fun e => hn (by rw [← e]; simp))⟩

section
variable {P : Program} {ro : Option Nat} {n : Nat} {E : Env} {Q : SQ} {K : SK} {ds : List Deferred} {s : Sto} {os : List Res} {fs : List Frag}
variable {d : Nat} {ty : TypeId} {p : String} {af : Array Edge} {g : Option (Nat × Bool)}

/-! ### New blocks -/
theorem run_newVar (t : TypeId) (v : Value) (w : World) : (newVar t v).run P w = .ok ⟨w.heap.size, 0, none⟩ (w.alloc (.cells v.cells t)) := by
  simp [newVar, newRow]
theorem o_box {x : Operand} {t : TypeId} {v : Value} (hx : ev s x = some v) (hk : ∀ b, b ∉ E.S → K ds ((d, .pointer (some ⟨b, 0, none⟩)) :: s) (cel b t v.cells.toList :: os) fs) (hd : Nat.blt d n = true := by rfl) (hS : ∀ b ∈ E.S, b < E.w0.heap.size := by first | assumption | simp [foots]) :
    OpS P ro n E Q ⟨some d, .box t x, ty, p, af, g⟩ K ds s os fs :=
  OpS.val (by simp) rfl hd fun a w r => ⟨.pointer (some ⟨w.heap.size, 0, none⟩), w.alloc (.cells v.cells t), cel w.heap.size t v.cells.toList :: os, fs,
    by simp [execOp, r.ag.eval hx, Instr.box, Sem.run_bind, run_newVar], by have := r.st.alloc (.cells v.cells t); simpa [cel] using this,
    hk _ fun hm => by have := hS _ hm; have := r.st.keep.size; omega⟩
theorem o_alloc {t : TypeId} {z : Value} {sz by_ : Nat} (hz : zeroIs P t z sz by_) (hk : ∀ b, b ∉ E.S → K ds ((d, .pointer (some ⟨b, 0, none⟩)) :: s) (cel b t z.cells.toList :: os) fs) (hd : Nat.blt d n = true := by rfl) (hS : ∀ b ∈ E.S, b < E.w0.heap.size := by first | assumption | simp [foots]) :
    OpS P ro n E Q ⟨some d, .alloc t, ty, p, af, g⟩ K ds s os fs :=
  OpS.val (by simp) rfl hd fun a w r => ⟨.pointer (some ⟨w.heap.size, 0, none⟩), w.alloc (.cells z.cells t), cel w.heap.size t z.cells.toList :: os, fs,
    by
      obtain ⟨i, hi, he⟩ := Option.map_eq_some_iff.1 hz
      simp only [Prod.mk.injEq] at he
      simp [execOp, Instr.alloc, Sem.run_bind, run_newVar, zeroValue, typeInfo, hi, he.1],
    by have := r.st.alloc (.cells z.cells t); simpa [cel] using this,
    hk _ fun hm => by have := hS _ hm; have := r.st.keep.size; omega⟩

/-! ### Fields and loads -/
theorem y_field {H : World → Prop} {x : Operand} {t : TypeId} {f o b off : Nat} (hx : ev s x = some (.pointer (some ⟨b, off, none⟩))) (hf : fieldIs P t f o = true) : Y P H s (.fieldAddr t x f) (.pointer (some ⟨b, off + o, none⟩)) :=
  fun oo ρ w ho h _ => by simp [execOp, ho, h x _ hx, Sem.run_bind, run_fieldAt hf]
theorem y_fieldP {H : World → Prop} {x : Operand} {t : TypeId} {f o : Nat} {φ : Frag} {v : Value} {cs : List Value} (hx : ev s x = some v) (hp : Pt φ v cs) (hf : fieldIs P t f o = true) : ∃ v', Pt φ v' (cs.drop o) ∧ Y P H s (.fieldAddr t x f) v' := by
  obtain ⟨b, off, arr, t', fr, rfl, hφ, hrow⟩ := hp
  refine ⟨_, ⟨b, off + o, arr, t', fr, rfl, hφ, ?_⟩, fun oo ρ w ho h _ => by simp [execOp, ho, h x _ hx, Sem.run_bind, run_fieldAt hf]⟩
  rcases Nat.lt_or_ge o cs.length with h1 | h1
  · rw [take_drop_take _ _ cs.length _ _ (by simp; omega), hrow]
    rw [List.take_of_length_le (Nat.le_refl _)]
  · rw [List.drop_eq_nil_of_le h1]; simp
theorem run_load_scalar {t : TypeId} (ht : scalar P t = true) {w : World} {b off : Nat} {u : Value} (hc : w.cell? ⟨b, off, none⟩ = some u) :
    (Instr.loadAt t (.pointer (some ⟨b, off, none⟩))).run P w = .ok u w := by
  simp [Instr.loadAt, Instr.sureAddr, loadVar, Sem.run_bind, run_isAgg_scalar ht, hc]
theorem run_load_agg {t : TypeId} {cs : List Value} (ht : aggOf P t cs.length = true) {w : World} {b off : Nat} (hc : ∀ j u, cs[j]? = some u → w.cell? ⟨b, off + j, none⟩ = some u) :
    (Instr.loadAt t (.pointer (some ⟨b, off, none⟩))).run P w = .ok (.agg cs.toArray) w := by
  have h := run_loadCells_list (P := P) w ⟨b, off, none⟩ cs (fun j v hv => by rw [add_mk]; exact hc j v hv)
  simp [Instr.loadAt, Instr.sureAddr, loadVar, Sem.run_bind, (run_isAgg_agg ht _).1, (run_isAgg_agg ht _).2, h]
theorem cel_cells {w : World} {b : Nat} {t : TypeId} {cs : List Value} (h : (cel b t cs).holds w) {j : Nat} {u : Value} (hu : cs[j]? = some u) : w.cell? ⟨b, j, none⟩ = some u := by
  rw [cell_of_row w b j cs.toArray t (0, 0) h]
  simpa using hu
theorem y_load (i : Nat) {x : Operand} {t te : TypeId} {b off : Nat} {cs : List Value} {u : Value} (hx : ev s x = some (.pointer (some ⟨b, off, none⟩))) (hr : os[i]? = some (cel b te cs)) (hu : cs[off]? = some u) (ht : scalar P t = true) :
    Y P (Hold os fs) s (.load t x) u := fun o ρ w ho h hH => by
  simp [execOp, ho, h x _ hx, Sem.run_bind, run_load_scalar ht (cel_cells (hH.1 _ (List.mem_of_getElem? hr)) hu)]
theorem y_loadA (i : Nat) {x : Operand} {t te : TypeId} {b off k : Nat} {cs : List Value} (hx : ev s x = some (.pointer (some ⟨b, off, none⟩))) (hr : os[i]? = some (cel b te cs)) (hl : off + k ≤ cs.length) (ht : aggOf P t k = true) :
    Y P (Hold os fs) s (.load t x) (.agg ((cs.drop off).take k).toArray) := fun o ρ w ho h hH => by
  have hlen : ((cs.drop off).take k).length = k := by simp; omega
  have := run_load_agg (P := P) (t := t) (cs := (cs.drop off).take k) (by rw [hlen]; exact ht) (w := w) (b := b) (off := off) (fun j u hu => by
    have hj := (List.getElem?_eq_some_iff.1 hu).1
    rw [hlen] at hj
    rw [List.getElem?_take, if_pos hj, List.getElem?_drop] at hu
    exact cel_cells (hH.1 _ (List.mem_of_getElem? hr)) hu)
  simp [execOp, ho, h x _ hx, Sem.run_bind, this]
theorem y_loadP {x : Operand} {t : TypeId} {φ : Frag} {v u : Value} {cs : List Value} (hx : ev s x = some v) (hp : Pt φ v cs) (hu : cs[0]? = some u) (hφ : φ ∈ fs) (ht : scalar P t = true) : Y P (Hold os fs) s (.load t x) u := by
  obtain ⟨b, off, arr, t', fr, rfl, hrest⟩ := id hp
  intro o ρ w ho h hH
  have := hp.cells (hH.2 φ hφ) 0 u hu
  rw [Nat.add_zero] at this
  simp [execOp, ho, h x _ hx, Sem.run_bind, run_load_scalar ht this]
theorem y_loadPA {x : Operand} {t : TypeId} {φ : Frag} {v : Value} {cs : List Value} (k : Nat) (hx : ev s x = some v) (hp : Pt φ v cs) (hl : k ≤ cs.length) (hφ : φ ∈ fs) (ht : aggOf P t k = true) : Y P (Hold os fs) s (.load t x) (.agg (cs.take k).toArray) := by
  obtain ⟨b, off, arr, t', fr, rfl, hrest⟩ := id hp
  intro o ρ w ho h hH
  have hlen : (cs.take k).length = k := by simp; omega
  have := run_load_agg (P := P) (t := t) (cs := cs.take k) (by rw [hlen]; exact ht) (w := w) (b := b) (off := off) (fun j u hu => by
    have hj := (List.getElem?_eq_some_iff.1 hu).1
    rw [hlen] at hj
    rw [List.getElem?_take, if_pos hj] at hu
    exact hp.cells (hH.2 φ hφ) j u hu)
  simp [execOp, ho, h x _ hx, Sem.run_bind, this]

/-! ### Stores -/
theorem o_storeN (i : Nat) {x y : Operand} {t te : TypeId} {b off : Nat} {cs vs : List Value} {v : Value} (hx : ev s x = some (.pointer (some ⟨b, off, none⟩))) (hy : ev s y = some v) (hv : v.cells = vs.toArray) (hr : os[i]? = some (cel b te cs)) (hl : off + vs.length ≤ cs.length)
    (h1 : ∀ u ∈ vs, u.oneCell' = true) (ht : sizeIs P t vs.length = true) (hk : K ds s (os.set i (cel b te (cs.take off ++ vs ++ cs.drop (off + vs.length)))) fs) :
    OpS P ro n E Q ⟨none, .store t x y, ty, p, af, g⟩ K ds s os fs :=
  OpS.unit (by simp) rfl fun a w r => by
    have hb := r.st.holds _ (List.mem_of_getElem? hr)
    have hst := run_storeCells_at P b off te vs 0 cs.toArray w hb (by simpa using hl) h1
    have e1 : vs.toArray.size = vs.length := by simp
    refine ⟨w.setRow b (cs.take off ++ vs ++ cs.drop (off + vs.length)).toArray, os.set i (cel b te (cs.take off ++ vs ++ cs.drop (off + vs.length))), fs, ?_, ?_, hk⟩
    · simp [execOp, r.ag.eval hx, r.ag.eval hy, Instr.storeAt, Instr.sureAddr, storeVar, Sem.run_bind, run_sizeOf ht, hv, hst]
    · exact r.st.turnAt hr (keep_setRow w b _) (by simp [Res.foot]) (setRow_heap w b _ _ te (0, 0) hb) (fun b' h => .inl h)
theorem o_store (i : Nat) {x y : Operand} {t te : TypeId} {b off : Nat} {cs : List Value} {v : Value} (hx : ev s x = some (.pointer (some ⟨b, off, none⟩))) (hy : ev s y = some v) (h1 : v.oneCell' = true) (hr : os[i]? = some (cel b te cs)) (hl : off < cs.length)
    (ht : sizeIs P t 1 = true) (hk : K ds s (os.set i (cel b te (cs.set off v))) fs) :
    OpS P ro n E Q ⟨none, .store t x y, ty, p, af, g⟩ K ds s os fs :=
  o_storeN (vs := [v]) i hx hy (by cases v <;> first | rfl | simp [Value.oneCell'] at h1) hr (by simp; omega) (by simpa using h1) ht (by
    have : cs.take off ++ [v] ++ cs.drop (off + [v].length) = cs.set off v := by
      rw [List.set_eq_take_append_cons_drop, if_pos hl]; simp
    rw [this]; exact hk)

/-! ### Slices that are read -/
theorem y_len {H : World → Prop} {x : Operand} {t e : TypeId} {A : Option Addr} {l c : Nat} (hx : ev s x = some (.slice A l c)) (ht : P.underlying t = some (.slice e)) : Y P H s (.call ⟨.builtin .len, #[x], #[t]⟩) (.int .i64 (l : Int)) :=
  fun o ρ w ho h _ => by simp [execOp, ho, resolve, invoke, builtin, Builtin.len_, h x _ hx, run_underlying ht, goInt]
theorem y_cap {H : World → Prop} {x : Operand} {t e : TypeId} {A : Option Addr} {l c : Nat} (hx : ev s x = some (.slice A l c)) (ht : P.underlying t = some (.slice e)) : Y P H s (.call ⟨.builtin .cap, #[x], #[t]⟩) (.int .i64 (c : Int)) :=
  fun o ρ w ho h _ => by simp [execOp, ho, resolve, invoke, builtin, Builtin.cap_, h x _ hx, run_underlying ht, goInt]
theorem y_lenS {H : World → Prop} {x : Operand} {t e : TypeId} {φ : Frag} {v : Value} {sz : Nat} {ess : List (List Value)} (hx : ev s x = some v) (hv : Sl φ v sz ess) (ht : P.underlying t = some (.slice e)) : Y P H s (.call ⟨.builtin .len, #[x], #[t]⟩) (.int .i64 (ess.length : Int)) := by
  obtain ⟨_, _, A, cap, rfl, _⟩ := hv
  exact y_len hx ht
theorem run_indexAt {t e : TypeId} {b off l c sz : Nat} {k : IntKind} {i : Int} (ht : P.underlying t = some (.slice e)) (hs : sizeIs P e sz = true) (h0 : 0 ≤ i) (h1 : i < l) (w : World) :
    (Instr.indexAt t (.slice (some ⟨b, off, none⟩) l c) (.int k i)).run P w = .ok (.pointer (some ⟨b, off + i.toNat * sz, none⟩)) w := by
  simp [Instr.indexAt, asIntOf, run_underlying ht, h0, h1, run_sizeOf hs, add_mk]
theorem y_indexS {H : World → Prop} {x y : Operand} {t e : TypeId} {φ : Frag} {v : Value} {sz : Nat} {ess : List (List Value)} {k : IntKind} {i : Int} {el : List Value} (hx : ev s x = some v) (hv : Sl φ v sz ess) (hy : ev s y = some (.int k i)) (ht : P.underlying t = some (.slice e)) (hs : sizeIs P e sz = true)
    (h0 : 0 ≤ i) (hel : ess[i.toNat]? = some el) : ∃ v', Pt φ v' el ∧ Y P H s (.indexAddr t x y) v' := by
  obtain ⟨b, off, cap, rfl, hp⟩ := hv.pt hel
  have hlt := (List.getElem?_eq_some_iff.1 hel).1
  exact ⟨_, hp, fun o ρ w ho h _ => by simp [execOp, ho, h x _ hx, h y _ hy, Sem.run_bind, run_indexAt (k := k) ht hs h0 (show i < (ess.length : Int) by omega)]⟩
theorem Sl.sub {φ : Frag} {A : Option Addr} {cap sz : Nat} {ess : List (List Value)} (h : Sl φ (.slice A ess.length cap) sz ess) {i j m : Nat} (hij : i ≤ j) (hj : j ≤ ess.length) (hm : j ≤ m) (hmc : m ≤ cap) (hA : m ≠ i ∨ j = i) :
    Sl φ (.slice (if m = i then A else A.map (·.add (i * sz))) (j - i) (m - i)) sz ((ess.drop i).take (j - i)) := by
  have hlen : ((ess.drop i).take (j - i)).length = j - i := by simp; omega
  refine ⟨fun x hx => h.1 x (List.mem_of_mem_drop (List.mem_of_mem_take hx)), by rw [hlen]; have := h.2.1; omega, _, _, by rw [hlen], by omega, fun hpos => ?_⟩
  rw [hlen] at hpos
  obtain ⟨_, _, A', cap', he, _, h2⟩ := h
  cases he
  obtain ⟨b, off, arr, t, fr, rfl, hφ, hrow⟩ := h2 (by omega)
  have hmi : m ≠ i := by rcases hA with h | h <;> omega
  refine ⟨b, off + i * sz, arr, t, fr, by rw [if_neg hmi]; simp [add_mk], hφ, ?_⟩
  have hsz : ∀ x ∈ ess, x.length = sz := by assumption
  have hf : ((ess.drop i).take (j - i)).flatten.length = (j - i) * sz := by
    rw [flatten_length (sz := sz) (fun x hx => hsz x (List.mem_of_mem_drop (List.mem_of_mem_take hx))), hlen]
  have hfit : i * sz + (j - i) * sz ≤ ess.flatten.length := by
    rw [flatten_length hsz, ← Nat.add_mul]
    exact Nat.mul_le_mul_right _ (by omega)
  rw [hf, take_drop_take _ _ _ _ _ hfit, hrow, flatten_drop i hsz, flatten_take (j - i) (fun x hx => hsz x (List.mem_of_mem_drop hx))]
theorem run_slice {t e : TypeId} {A : Option Addr} {l c sz i j : Nat} (ht : P.underlying t = some (.slice e)) (hs : sizeIs P e sz = true) {ρ : Operand → Value} {x : Operand} {lo hi : Option Operand} (hx : ρ x = .slice A l c)
    (hlo : match lo with | none => i = 0 | some y => ∃ k, ρ y = .int k (i : Int)) (hhi : match hi with | none => j = l | some y => ∃ k, ρ y = .int k (j : Int)) (hij : i ≤ j) (hj : j ≤ c) (w : World) :
    (Instr.sliceAt t (ρ x) (lo.map ρ) (hi.map ρ) none).run P w = .ok (.slice (if c = i then A else A.map (·.add (i * sz))) (j - i) (c - i)) w := by
  have h1 : ((i : Int)) ≤ (j : Int) := by omega
  have h2 : ((j : Int)) ≤ (c : Int) := by omega
  rw [hx]
  cases lo <;> cases hi <;> simp only at hlo hhi
  · subst hlo; subst hhi
    simp [Instr.sliceAt, Instr.slice, Instr.sliceBounds, run_underlying ht, run_sizeOf hs]
  · subst hlo
    obtain ⟨k, hhi⟩ := hhi
    simp [Instr.sliceAt, Instr.slice, Instr.sliceBounds, Instr.sliceBound, asIntOf, hhi, run_underlying ht, run_sizeOf hs, h2, hj]
  · subst hhi
    obtain ⟨k, hlo⟩ := hlo
    simp [Instr.sliceAt, Instr.slice, Instr.sliceBounds, Instr.sliceBound, asIntOf, hlo, run_underlying ht, run_sizeOf hs, h1, hij]
  · obtain ⟨k, hlo⟩ := hlo
    obtain ⟨k2, hhi⟩ := hhi
    simp [Instr.sliceAt, Instr.slice, Instr.sliceBounds, Instr.sliceBound, asIntOf, hlo, hhi, run_underlying ht, run_sizeOf hs, h1, h2, hij, hj]
theorem y_sliceS {H : World → Prop} {x : Operand} {t e : TypeId} {φ : Frag} {v : Value} {sz i j : Nat} {ess : List (List Value)} {lo hi : Option Operand} (hx : ev s x = some v) (hv : Sl φ v sz ess) (ht : P.underlying t = some (.slice e)) (hs : sizeIs P e sz = true)
    (hlo : match lo with | none => i = 0 | some y => ∃ k, ev s y = some (.int k (i : Int))) (hhi : match hi with | none => j = ess.length | some y => ∃ k, ev s y = some (.int k (j : Int))) (hij : i ≤ j) (hj : j ≤ ess.length) :
    ∃ v', Sl φ v' sz ((ess.drop i).take (j - i)) ∧ Y P H s (.slice t x lo hi none) v' := by
  obtain ⟨_, _, A, cap, rfl, hcap, _⟩ := id hv
  refine ⟨_, hv.sub (m := cap) hij hj (by omega) (Nat.le_refl _) (by omega), fun o ρ w ho h _ => ?_⟩
  have := run_slice (P := P) (i := i) (j := j) ht hs (ρ := ρ) (x := x) (lo := lo) (hi := hi) (h x _ hx)
    (by cases lo with | none => exact hlo | some y => exact let ⟨k, hk⟩ := hlo; ⟨k, h _ _ hk⟩) (by cases hi with | none => exact hhi | some y => exact let ⟨k, hk⟩ := hhi; ⟨k, h _ _ hk⟩) hij (by omega) w
  simp [execOp, ho, Sem.run_bind, this]
end
end Go.Proofs.Sep
