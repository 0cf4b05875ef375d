/- Rows of the body's own; the builtins; calls; a function's contract out of its body. -/
import Derived.Test.YtpnhedlciamegaaDoorSepD
set_option linter.all false
set_option linter.unnecessarySimpa false
set_option linter.deprecated false
set_option linter.unusedVariables false
set_option linter.unusedSimpArgs false
namespace Go.Proofs.Sep
open Go Go.RowKit

theorem flatten_get {sz : Nat} : ∀ {ess : List (List Value)} {j : Nat} {el : List Value} {q : Nat} {u : Value}, (∀ x ∈ ess, x.length = sz) → ess[j]? = some el → el[q]? = some u → ess.flatten[j * sz + q]? = some u
  | [], _, _, _, _, _, h, _ => by simp at h
  | x :: r, 0, el, q, u, h, h1, h2 => by
    simp at h1; subst h1
    rw [List.flatten_cons, Nat.zero_mul, Nat.zero_add, List.getElem?_append_left (List.getElem?_eq_some_iff.1 h2).1]
    exact h2
  | x :: r, j + 1, el, q, u, h, h1, h2 => by
    have hx := h x List.mem_cons_self
    simp at h1
    have ih := flatten_get (fun y hy => h y (List.mem_cons_of_mem _ hy)) h1 h2
    rw [List.flatten_cons, List.getElem?_append_right (by rw [hx, Nat.add_mul]; omega), hx]
    have : (j + 1) * sz + q - sz = j * sz + q := by rw [Nat.add_mul]; omega
    rw [this]; exact ih
theorem flatten_set {sz : Nat} : ∀ {ess : List (List Value)} {j : Nat} {el : List Value} {q : Nat} (u : Value), (∀ x ∈ ess, x.length = sz) → ess[j]? = some el → q < sz → ess.flatten.set (j * sz + q) u = (ess.set j (el.set q u)).flatten
  | [], _, _, _, _, _, h, _ => by simp at h
  | x :: r, 0, el, q, u, h, h1, h2 => by
    simp at h1; subst h1
    have hx := h x List.mem_cons_self
    rw [List.flatten_cons, List.set_cons_zero, List.flatten_cons, Nat.zero_mul, Nat.zero_add, List.set_append_left _ _ (by omega)]
  | x :: r, j + 1, el, q, u, h, h1, h2 => by
    have hx := h x List.mem_cons_self
    simp at h1
    have ih := flatten_set u (fun y hy => h y (List.mem_cons_of_mem _ hy)) h1 h2
    rw [List.flatten_cons, List.set_cons_succ, List.flatten_cons, ← ih, List.set_append_right _ _ (by rw [hx, Nat.add_mul]; omega), hx]
    congr 2
    rw [Nat.add_mul]; omega

theorem set_same {α : Type} : ∀ {l : List α} {i : Nat} {x : α}, l[i]? = some x → l.set i x = l
  | [], _, _, h => by simp at h
  | a :: r, 0, x, h => by simp at h; simp [h]
  | a :: r, i + 1, x, h => by simp at h; simp [set_same h]
theorem row_form {w : World} {v : Value} {e : TypeId} {sz : Nat} {ess : List (List Value)} (h : (Res.row v e sz ess).holds w) (hn : 0 < ess.length) :
    ∃ g cap cur, v = .slice (some ⟨g, 0, none⟩) ess.length cap ∧ w.heap[g]? = some (.cells cur e (0, 0)) ∧ ess.length ≤ cap ∧ cap ≤ maxLen ∧ cur.size = cap * sz ∧ cur.toList.take (ess.length * sz) = ess.flatten := by
  rcases h.1.2 with ⟨_, h0⟩ | ⟨g, cap, cur, rfl, _, h1, h2, h3, h4, h5⟩
  · omega
  · exact ⟨g, cap, cur, rfl, h1, h2, h3, h4, h5⟩
theorem row_shape {w : World} {v : Value} {e : TypeId} {sz : Nat} {ess : List (List Value)} (h : (Res.row v e sz ess).holds w) : ∃ A cap, v = .slice A ess.length cap ∧ ess.length ≤ cap := by
  rcases h.1.2 with ⟨rfl, h0⟩ | ⟨g, cap, cur, rfl, _, h1, h2, _⟩
  · exact ⟨none, 0, by rw [h0], by omega⟩
  · exact ⟨_, cap, rfl, h2⟩
theorem row_cells {w : World} {v : Value} {e : TypeId} {sz : Nat} {ess : List (List Value)} (h : (Res.row v e sz ess).holds w) {g : Nat} (hg : v.ownBlock = some g) {j : Nat} {u : Value} (hu : ess.flatten[j]? = some u) : w.cell? ⟨g, j, none⟩ = some u := by
  have := h.1.cells hg j u hu
  rwa [add_mk, Nat.zero_add] at this
/-- What a row reads as, once it is read-only. -/
theorem row_sl {w : World} {v : Value} {e : TypeId} {sz : Nat} {ess : List (List Value)} (h : (Res.row v e sz ess).holds w) {φ : Frag} (hφ : ∀ b, v.ownBlock = some b → φ b = w.heap[b]?) (hl : ess.length ≤ 9223372036854775807) : Sl φ v sz ess := by
  refine ⟨h.2, hl, ?_⟩
  obtain ⟨A, cap, hv, hc⟩ := row_shape h
  refine ⟨A, cap, hv, hc, fun hn => ?_⟩
  obtain ⟨g, cap', cur, hv', hg, _, _, _, ht⟩ := row_form h hn
  rw [hv] at hv'
  cases hv'
  refine ⟨g, 0, cur, e, (0, 0), rfl, ?_, ?_⟩
  · rw [hφ g (by rw [hv]; rfl)]; exact hg
  · rw [List.drop_zero, flatten_length h.2]; exact ht
theorem row_len {w : World} {v : Value} {e : TypeId} {sz : Nat} {ess : List (List Value)} (h : (Res.row v e sz ess).holds w) : ess.length ≤ 9223372036854775807 := by
  rcases h.1.2 with ⟨_, h0⟩ | ⟨g, cap, cur, rfl, _, h1, h2, h3, _⟩
  · omega
  · have : maxLen = 9223372036854775807 := rfl
    omega

section
variable {P : Program} {ro : Option Nat} {n : Nat} {E : Env} {Q : SQ} {K : SK} {ds : List Deferred} {s : Sto} {os : List Res} {fs : List Frag}
variable {d : Nat} {ty : TypeId} {p : String} {af : Array Edge} {g : Option (Nat × Bool)}

/-! ### What is known, said otherwise -/
theorem W.upd {c : Code} (h : ∀ w, St E.w0 E.S E.F0 w os fs → ∃ os' fs', St E.w0 E.S E.F0 w os' fs' ∧ W P ro n E c Q ds s os' fs') : W P ro n E c Q ds s os fs := fun a w r =>
  let ⟨os', fs', h1, h2⟩ := h w r.st; h2 a w ⟨r.ag, h1⟩
theorem WL.upd {ops : Array Oper} {l : List Oper} (h : ∀ w, St E.w0 E.S E.F0 w os fs → ∃ os' fs', St E.w0 E.S E.F0 w os' fs' ∧ WL P ro n E ops Q l ds s os' fs') : WL P ro n E ops Q l ds s os fs := fun a w r =>
  let ⟨os', fs', h1, h2⟩ := h w r.st; h2 a w ⟨r.ag, h1⟩
theorem OpS.upd {o : Oper} (h : ∀ w, St E.w0 E.S E.F0 w os fs → ∃ os' fs', St E.w0 E.S E.F0 w os' fs' ∧ OpS P ro n E Q o K ds s os' fs') : OpS P ro n E Q o K ds s os fs := fun a w r =>
  let ⟨os', fs', h1, h2⟩ := h w r.st; h2 a w ⟨r.ag, h1⟩
theorem St.nil {w0 : World} {S : List Nat} {F0 : List Frag} {w : World} (h : St w0 S F0 w os fs) (e : TypeId) (sz : Nat) : St w0 S F0 w (.row (.slice none 0 0) e sz [] :: os) fs := by
  refine ⟨h.keep, ?_, h.sub, ?_, ?_, h.orig⟩
  · intro r hr
    rcases List.mem_cons.1 hr with rfl | hr
    · exact ⟨⟨by simp, .inl ⟨rfl, rfl⟩⟩, by simp⟩
    · exact h.holds r hr
  · exact List.Pairwise.cons (fun r hr b hb => by simp [Res.foot, Value.ownBlock] at hb) h.apart
  · intro r hr b hb
    rcases List.mem_cons.1 hr with rfl | hr
    · simp [Res.foot, Value.ownBlock] at hb
    · exact h.away r hr b hb
theorem W.nilRow {c : Code} (e : TypeId) (sz : Nat) (h : W P ro n E c Q ds s (.row (.slice none 0 0) e sz [] :: os) fs) : W P ro n E c Q ds s os fs := W.upd fun w hs => ⟨_, _, hs.nil e sz, h⟩
theorem WL.nilRow {ops : Array Oper} {l : List Oper} (e : TypeId) (sz : Nat) (h : WL P ro n E ops Q l ds s (.row (.slice none 0 0) e sz [] :: os) fs) : WL P ro n E ops Q l ds s os fs := WL.upd fun w hs => ⟨_, _, hs.nil e sz, h⟩
/-- A row that is read from here on alone. -/
theorem St.freezeRow {w0 : World} {S : List Nat} {F0 : List Frag} {w : World} {v : Value} {e : TypeId} {sz : Nat} {ess : List (List Value)} (h : St w0 S F0 w (.row v e sz ess :: os) fs) :
    ∃ φ, Sl φ v sz ess ∧ St w0 S F0 w os (φ :: fs) := by
  have hr := h.holds _ List.mem_cons_self
  exact ⟨_, row_sl hr (fun b hb => if_pos hb) (row_len hr), h.freeze⟩
theorem W.freezeRow {c : Code} (i : Nat) {v : Value} {e : TypeId} {sz : Nat} {ess : List (List Value)} (hr : os[i]? = some (.row v e sz ess)) (h : ∀ φ, Sl φ v sz ess → W P ro n E c Q ds s (os.eraseIdx i) (φ :: fs)) : W P ro n E c Q ds s os fs :=
  W.upd fun w hs => let ⟨φ, h1, h2⟩ := (hs.perm (perm_at hr)).freezeRow; ⟨_, _, h2, h φ h1⟩
theorem WL.freezeRow {ops : Array Oper} {l : List Oper} (i : Nat) {v : Value} {e : TypeId} {sz : Nat} {ess : List (List Value)} (hr : os[i]? = some (.row v e sz ess)) (h : ∀ φ, Sl φ v sz ess → WL P ro n E ops Q l ds s (os.eraseIdx i) (φ :: fs)) : WL P ro n E ops Q l ds s os fs :=
  WL.upd fun w hs => let ⟨φ, h1, h2⟩ := (hs.perm (perm_at hr)).freezeRow; ⟨_, _, h2, h φ h1⟩

/-! ### Rows: length, element, store -/
theorem o_lenR (i : Nat) {x : Operand} {t e e' : TypeId} {v : Value} {sz : Nat} {ess : List (List Value)} (hx : ev s x = some v) (hr : os[i]? = some (.row v e sz ess)) (ht : P.underlying t = some (.slice e')) (hk : K ds ((d, .int .i64 (ess.length : Int)) :: s) os fs) (hd : Nat.blt d n = true := by rfl) :
    OpS P ro n E Q ⟨some d, .call ⟨.builtin .len, #[x], #[t]⟩, ty, p, af, g⟩ K ds s os fs :=
  OpS.upd fun w hs => by
    obtain ⟨A, cap, rfl, _⟩ := row_shape (hs.holds _ (List.mem_of_getElem? hr))
    exact ⟨os, fs, hs, OpS.y (y_len hx ht) hk (hdn := hd)⟩
theorem y_lenR (i : Nat) {x : Operand} {t e e' : TypeId} {v : Value} {sz : Nat} {ess : List (List Value)} (hx : ev s x = some v) (hr : os[i]? = some (.row v e sz ess)) (ht : P.underlying t = some (.slice e')) : Y P (Hold os fs) s (.call ⟨.builtin .len, #[x], #[t]⟩) (.int .i64 (ess.length : Int)) := fun o ρ w ho h hH => by
  obtain ⟨A, cap, rfl, _⟩ := row_shape (hH.1 _ (List.mem_of_getElem? hr))
  exact y_len (H := fun _ => True) hx ht o ρ w ho h trivial
/-- The row's value written out. -/
theorem W.rowForm {c : Code} (i : Nat) {v : Value} {e : TypeId} {sz : Nat} {ess : List (List Value)} (hr : os[i]? = some (.row v e sz ess)) (hn : 0 < ess.length) (h : ∀ gb cap, v = .slice (some ⟨gb, 0, none⟩) ess.length cap → ess.length ≤ cap → W P ro n E c Q ds s os fs) : W P ro n E c Q ds s os fs :=
  W.upd fun w hs => by
    obtain ⟨gb, cap, cur, he, _, hc, _⟩ := row_form (hs.holds _ (List.mem_of_getElem? hr)) hn
    exact ⟨os, fs, hs, h gb cap he hc⟩
theorem WL.rowForm {ops : Array Oper} {l : List Oper} (i : Nat) {v : Value} {e : TypeId} {sz : Nat} {ess : List (List Value)} (hr : os[i]? = some (.row v e sz ess)) (hn : 0 < ess.length) (h : ∀ gb cap, v = .slice (some ⟨gb, 0, none⟩) ess.length cap → ess.length ≤ cap → WL P ro n E ops Q l ds s os fs) : WL P ro n E ops Q l ds s os fs :=
  WL.upd fun w hs => by
    obtain ⟨gb, cap, cur, he, _, hc, _⟩ := row_form (hs.holds _ (List.mem_of_getElem? hr)) hn
    exact ⟨os, fs, hs, h gb cap he hc⟩
theorem W.rowShape {c : Code} (i : Nat) {v : Value} {e : TypeId} {sz : Nat} {ess : List (List Value)} (hr : os[i]? = some (.row v e sz ess)) (h : ∀ A cap, v = .slice A ess.length cap → ess.length ≤ cap → W P ro n E c Q ds s os fs) : W P ro n E c Q ds s os fs :=
  W.upd fun w hs => by
    obtain ⟨A, cap, he, hc⟩ := row_shape (hs.holds _ (List.mem_of_getElem? hr))
    exact ⟨os, fs, hs, h A cap he hc⟩
theorem y_indexR {H : World → Prop} {x y : Operand} {t e : TypeId} {sz l gb cap : Nat} {k : IntKind} {j : Int} (hx : ev s x = some (.slice (some ⟨gb, 0, none⟩) l cap)) (hy : ev s y = some (.int k j)) (ht : P.underlying t = some (.slice e)) (hs : sizeIs P e sz = true)
    (h0 : 0 ≤ j) (h1 : j < l) : Y P H s (.indexAddr t x y) (.pointer (some ⟨gb, 0 + j.toNat * sz, none⟩)) :=
  fun o ρ w ho h _ => by simp only [execOp, ho, h x _ hx, h y _ hy, Sem.run_bind, run_indexAt (k := k) ht hs h0 h1]; rfl
theorem y_loadR (i j q : Nat) {x : Operand} {t e : TypeId} {gb off : Nat} {v : Value} {sz : Nat} {ess : List (List Value)} {el : List Value} {u : Value} (hx : ev s x = some (.pointer (some ⟨gb, off, none⟩))) (hr : os[i]? = some (.row v e sz ess)) (hv : v.ownBlock = some gb)
    (hoff : off = j * sz + q) (hel : ess[j]? = some el) (hu : el[q]? = some u) (ht : scalar P t = true) : Y P (Hold os fs) s (.load t x) u := fun o ρ w ho h hH => by
  have hh := hH.1 _ (List.mem_of_getElem? hr)
  have := row_cells hh hv (flatten_get hh.2 hel hu)
  rw [← hoff] at this
  simp [execOp, ho, h x _ hx, Sem.run_bind, run_load_scalar ht this]
theorem y_loadRA (i j : Nat) {x : Operand} {t e : TypeId} {gb off : Nat} {v : Value} {sz : Nat} {ess : List (List Value)} {el : List Value} (hx : ev s x = some (.pointer (some ⟨gb, off, none⟩))) (hr : os[i]? = some (.row v e sz ess)) (hv : v.ownBlock = some gb)
    (hoff : off = j * sz) (hel : ess[j]? = some el) (ht : aggOf P t sz = true) : Y P (Hold os fs) s (.load t x) (.agg el.toArray) := fun o ρ w ho h hH => by
  have hh := hH.1 _ (List.mem_of_getElem? hr)
  have hl : el.length = sz := hh.2 el (List.mem_of_getElem? hel)
  have := run_load_agg (P := P) (t := t) (cs := el) (by rw [hl]; exact ht) (w := w) (b := gb) (off := off) (fun q u hu => by
    have := row_cells hh hv (flatten_get hh.2 hel hu)
    rwa [← hoff] at this)
  simp [execOp, ho, h x _ hx, Sem.run_bind, this]
theorem o_storeR (i j q : Nat) {x y : Operand} {t e : TypeId} {gb off : Nat} {v : Value} {sz : Nat} {ess : List (List Value)} {el : List Value} {u : Value} (hx : ev s x = some (.pointer (some ⟨gb, off, none⟩))) (hy : ev s y = some u) (h1 : u.oneCell' = true) (hr : os[i]? = some (.row v e sz ess)) (hv : v.ownBlock = some gb)
    (hoff : off = j * sz + q) (hel : ess[j]? = some el) (hq : q < sz) (ht : sizeIs P t 1 = true) (hk : K ds s (os.set i (.row v e sz (ess.set j (el.set q u)))) fs) :
    OpS P ro n E Q ⟨none, .store t x y, ty, p, af, g⟩ K ds s os fs :=
  OpS.unit (by simp) rfl fun a w r => by
    have hh := r.st.holds _ (List.mem_of_getElem? hr)
    have hj := (List.getElem?_eq_some_iff.1 hel).1
    obtain ⟨gb', cap, cur, rfl, hg, hn, hm, hsz, htake⟩ := row_form hh (by omega)
    have hgb : gb' = gb := by simpa [Value.ownBlock] using hv
    subst hgb
    have hlen : ess.length * sz ≤ cur.size := by rw [hsz]; exact Nat.mul_le_mul_right _ hn
    have hoff' : off < ess.length * sz := by
      have : (j + 1) * sz ≤ ess.length * sz := Nat.mul_le_mul_right _ (by omega)
      rw [Nat.add_mul] at this; omega
    have hst := run_storeCells_at P gb' off e [u] 0 cur w hg (by simp; omega) (by simpa using h1)
    have huc : u.cells = [u].toArray := by cases u <;> first | rfl | simp [Value.oneCell'] at h1
    have hlist : (cur.toList.take off ++ [u] ++ cur.toList.drop (off + 1)) = cur.toList.set off u := by
      rw [List.set_eq_take_append_cons_drop, if_pos (by simp; omega)]; simp
    refine ⟨w.setRow gb' (cur.toList.set off u).toArray, os.set i (.row _ e sz (ess.set j (el.set q u))), fs, ?_, ?_, hk⟩
    · have hst' : (storeCells ⟨gb', off, none⟩ [u] 0).run P w = .ok () (w.setRow gb' (cur.toList.set off u).toArray) := by
        rw [hst, Nat.add_zero, List.length_singleton, hlist]
      simp [execOp, r.ag.eval hx, r.ag.eval hy, Instr.storeAt, Instr.sureAddr, storeVar, Sem.run_bind, run_sizeOf ht, huc, hst']
    · refine r.st.turnAt hr (keep_setRow w gb' _) (by simp [Res.foot, Value.ownBlock]) ⟨⟨?_, .inr ⟨gb', cap, _, ?_, Nat.zero_le _, setRow_heap w gb' _ _ e (0, 0) hg, ?_, hm, ?_, ?_⟩⟩, ?_⟩ (fun b h => .inl h)
      · have := hh.1.1
        rw [List.length_set, ← flatten_set u hh.2 hel hq, List.length_set, this]
      · rw [List.length_set]
      · rw [List.length_set]; exact hn
      · simpa using hsz
      · rw [List.length_set, ← flatten_set u hh.2 hel hq, ← hoff, ← htake]
        simp only [List.take_set]
      · intro x hx
        rcases List.mem_or_eq_of_mem_set hx with h2 | rfl
        · exact hh.2 x h2
        · rw [List.length_set]; exact hh.2 el (List.mem_of_getElem? hel)

/-! ### Rows: new ones -/
theorem o_buildSlice {t e : TypeId} {len sz by_ : Nat} {z : Value} {parts : Array (Nat × Operand)} {pv : List (Nat × Value)} {ess : List (List Value)} (ht : P.underlying t = some (.slice e)) (hz : zeroIs P e z sz by_) (hzs : z.cells.size = sz) (hsz : 0 < sz)
    (hp : parts.toList.mapM (fun q => (ev s q.2).map fun v => (q.1, v)) = some pv) (hfill : Instr.fill (fun i => some (i * sz, sz)) (madeCells z.cells (len * sz)) pv = some ess.flatten.toArray) (hl : ess.length = len) (hes : ∀ x ∈ ess, x.length = sz) (hcap : len * sz ≤ 16777216)
    (hk : ∀ gb, gb ∉ E.S → K ds ((d, .slice (some ⟨gb, 0, none⟩) len len) :: s) (.row (.slice (some ⟨gb, 0, none⟩) len len) e sz ess :: os) fs) (hd : Nat.blt d n = true := by rfl) (hS : ∀ b ∈ E.S, b < E.w0.heap.size := by first | assumption | simp [foots]) :
    OpS P ro n E Q ⟨some d, .buildSlice t len parts, ty, p, af, g⟩ K ds s os fs :=
  OpS.val (by simp) rfl hd fun a w r => by
    obtain ⟨i, hi, he⟩ := Option.map_eq_some_iff.1 hz
    simp only [Prod.mk.injEq] at he
    obtain ⟨he1, he2, he3⟩ := he
    have key : ∀ (l : List (Nat × Operand)) (c : List (Nat × Value)), l.mapM (fun q => (ev s q.2).map fun v => (q.1, v)) = some c → l.map (fun q => (q.1, a.eval q.2)) = c := by
      intro l
      induction l with
      | nil => intro c hc; simp at hc; simp [hc]
      | cons q l ih =>
        intro c hc
        rw [List.mapM_cons] at hc
        cases hq : ev s q.2 with
        | none => rw [hq] at hc; simp at hc
        | some v =>
          cases hl : l.mapM (fun q => (ev s q.2).map fun v => (q.1, v)) with
          | none => rw [hq, hl] at hc; simp at hc
          | some c' =>
            rw [hq, hl] at hc
            simp at hc
            subst hc
            simp [r.ag.eval hq, ih _ hl]
    have hparts : (parts.map fun (i, x) => (i, a.eval x)).toList = pv := by rw [Array.toList_map]; exact key _ _ hp
    have hnot : ¬ (2 ^ 24 < len * sz) := by omega
    have hfl := flatten_length hes
    have hrun : (Instr.buildSlice t len (parts.map fun (i, x) => (i, a.eval x))).run P w = .ok (.slice (some ⟨w.heap.size, 0, none⟩) len len) (w.alloc (.cells ess.flatten.toArray e)) := by
      unfold Instr.buildSlice
      rw [hparts]
      by_cases h0 : len * sz = 0
      · have hr0 : Array.range 0 = #[] := rfl
        have hfill' : Instr.fill (fun i => some (i * sz, sz)) #[] pv = some ess.flatten.toArray := by
          rw [h0] at hfill; simpa [madeCells, hr0] using hfill
        simp [run_underlying ht, sizeOf, typeInfo, hi, he2, h0, hr0, hfill', newRow]
      · have hfill' : Instr.fill (fun i => some (i * sz, sz)) ((Array.range (len * sz)).map (z.cells[· % z.cells.size]!)) pv = some ess.flatten.toArray := hfill
        simp [run_underlying ht, sizeOf, typeInfo, zeroValue, hi, he1, he2, h0, hnot, hfill', newRow]
    refine ⟨_, _, _, _, by simp only [execOp, Sem.run_bind, hrun]; rfl, ?_, hk w.heap.size fun hm => by have := hS _ hm; have := r.st.keep.size; omega⟩
    have hst := r.st.alloc (.cells ess.flatten.toArray e)
    refine (hst.turnAt (i := 0) (r := Res.blk w.heap.size (.cells ess.flatten.toArray e)) rfl (T := []) (Keep.refl _ _) (by simp) (r' := Res.row (.slice (some ⟨w.heap.size, 0, none⟩) len len) e sz ess) ⟨⟨hfl, .inr ⟨w.heap.size, len, ess.flatten.toArray, by rw [hl], Nat.zero_le _, heap_alloc_new w _, by omega, ?_, ?_, ?_⟩⟩, hes⟩ (fun b hb => .inl (by simpa [Res.foot, Value.ownBlock] using hb)))
    · have : maxLen = 9223372036854775807 := rfl
      have : len * 1 ≤ len * sz := Nat.mul_le_mul_left _ hsz
      omega
    · rw [List.size_toArray, hfl, hl]
    · simp only [List.toList_toArray]; rw [← hfl]; exact List.take_of_length_le (Nat.le_refl _)
theorem o_makeSlice {x y : Operand} {t e : TypeId} {sz by_ : Nat} {z : Value} {k1 k2 : IntKind} {m : Nat} (hx : ev s x = some (.int k1 (m : Int))) (hy : ev s y = some (.int k2 (m : Int))) (ht : P.underlying t = some (.slice e)) (hz : zeroIs P e z sz by_) (hzs : z.cells.size = sz) (hsz : 0 < sz) (hb : by_ * m ≤ 281474976710656) (hm : m ≤ 9223372036854775807)
    (hk : ∀ gb, gb ∉ E.S → K ds ((d, .slice (some ⟨gb, 0, none⟩) m m) :: s) (.row (.slice (some ⟨gb, 0, none⟩) m m) e sz (List.replicate m z.cells.toList) :: os) fs) (hd : Nat.blt d n = true := by rfl) (hS : ∀ b ∈ E.S, b < E.w0.heap.size := by first | assumption | simp [foots]) :
    OpS P ro n E Q ⟨some d, .makeSlice t x y, ty, p, af, g⟩ K ds s os fs :=
  OpS.val (by simp) rfl hd fun a w r => by
    obtain ⟨i, hi, he⟩ := Option.map_eq_some_iff.1 hz
    simp only [Prod.mk.injEq] at he
    obtain ⟨he1, he2, he3⟩ := he
    have hb' : (i.bytes : Int) * (m : Int) ≤ 281474976710656 := by
      have h : ((i.bytes * m : Nat) : Int) ≤ 281474976710656 := by rw [he3]; omega
      rwa [Int.natCast_mul] at h
    have hrun := run_make (P := P) w t e i z ht hi he1 k1 k2 (m : Int) (m : Int) (by omega) (Int.le_refl _) hb' (by omega)
    simp only [Int.toNat_natCast, he2] at hrun
    have hes : ∀ q ∈ List.replicate m z.cells.toList, q.length = sz := fun q hq => by rw [(List.mem_replicate.1 hq).2]; simpa using hzs
    have hfl := flatten_length hes
    have hcells : (madeCells z.cells (m * sz)).toList = (List.replicate m z.cells.toList).flatten := by
      apply List.ext_getElem?
      intro q
      by_cases hq : q < m * sz
      · have hdm := Nat.div_add_mod q sz
        have hlt : q / sz < m := (Nat.div_lt_iff_lt_mul hsz).2 hq
        have hmod : q % sz < sz := Nat.mod_lt _ hsz
        have h1 : (List.replicate m z.cells.toList)[q / sz]? = some z.cells.toList := by simp [hlt]
        have hzl : q % sz < z.cells.toList.length := by simp; omega
        have h2 := flatten_get (q := q % sz) (u := z.cells.toList[q % sz]) hes h1 (List.getElem?_eq_getElem hzl)
        have e : q / sz * sz + q % sz = q := by rw [Nat.mul_comm]; exact hdm
        rw [e] at h2
        rw [h2]
        have hzl' : q % sz < z.cells.size := by omega
        simp [madeCells, hq, hzs, getElem!_pos z.cells (q % sz) hzl']
      · rw [List.getElem?_eq_none (by simp [madeCells]; omega), List.getElem?_eq_none (by rw [hfl]; simp; omega)]
    refine ⟨_, _, _, _, by simp only [execOp, Sem.run_bind, r.ag.eval hx, r.ag.eval hy, hrun]; rfl, ?_, hk w.heap.size fun hmm => by have := hS _ hmm; have := r.st.keep.size; omega⟩
    have hst := r.st.alloc (.cells (madeCells z.cells (m * sz)) e)
    refine (hst.turnAt (i := 0) (r := Res.blk w.heap.size (.cells (madeCells z.cells (m * sz)) e)) rfl (T := []) (Keep.refl _ _) (by simp) (r' := Res.row (.slice (some ⟨w.heap.size, 0, none⟩) m m) e sz (List.replicate m z.cells.toList)) ⟨⟨hfl, .inr ⟨w.heap.size, m, madeCells z.cells (m * sz), by simp, Nat.zero_le _, heap_alloc_new w _, by simp, ?_, by rw [size_madeCells], ?_⟩⟩, hes⟩ (fun b hb => .inl (by simpa [Res.foot, Value.ownBlock] using hb)))
    · have : maxLen = 9223372036854775807 := rfl
      omega
    · rw [hcells, ← hfl]; exact List.take_of_length_le (Nat.le_refl _)

/-! ### append -/
/-- Where what is appended is read. -/
def Src (os : List Res) (fs : List Frag) (u : Value) (sz : Nat) (news : List (List Value)) : Prop :=
  (∃ (i : Nat) (e : TypeId), os[i]? = some (Res.row u e sz news)) ∨ (∃ φ ∈ fs, Sl φ u sz news)
theorem run_append_empty {t ty e : TypeId} {i : TypeInfo} (ht : P.underlying t = some (.slice e)) (hi : P.info? e = some i) {A B : Option Addr} {l c c2 : Nat} (hlc : l ≤ c) (w : World) :
    (Builtin.append_ #[t, t] ty #[.slice A l c, .slice B 0 c2]).run P w = .ok (.slice A l c) w := by
  have hf : (Builtin.firstCells i.size 0 (.slice B 0 c2)).run P w = .ok #[] w := by
    cases B <;> simp [Builtin.firstCells, loadCells, loadCellsFrom]
  cases A <;> simp [Builtin.append_, run_underlying ht, sizeOf, typeInfo, hi, Builtin.lenOf, hlc, hf, storeCells]
theorem o_append (i : Nat) {x y : Operand} {t e : TypeId} {sz by_ : Nat} {z : Value} {v u : Value} {ess news : List (List Value)} (hx : ev s x = some v) (hy : ev s y = some u) (hr : os[i]? = some (.row v e sz ess)) (hsrc : Src os fs u sz news)
    (ht : P.underlying t = some (.slice e)) (hz : zeroIs P e z sz by_) (hzs : z.cells.size = sz) (hsz : 0 < sz) (hb : (ess.length + news.length) * by_ ≤ 140737488355328) (hby : 0 < by_) (h1 : ∀ x ∈ news, ∀ c ∈ x, c.oneCell' = true)
    (hk : ∀ v', (0 < news.length → ∃ gb cap, v' = .slice (some ⟨gb, 0, none⟩) (ess ++ news).length cap) → (∀ b ∈ E.S, v.ownBlock ≠ some b → v'.ownBlock ≠ some b) → K ds ((d, v') :: s) (os.set i (.row v' e sz (ess ++ news))) fs) (hd : Nat.blt d n = true := by rfl) (hS : ∀ b ∈ E.S, b < E.w0.heap.size := by first | assumption | simp [foots]) :
    OpS P ro n E Q ⟨some d, .call ⟨.builtin .append, #[x, y], #[t, t]⟩, ty, p, af, g⟩ K ds s os fs :=
  OpS.val (by simp) rfl hd fun a w r => by
    obtain ⟨i0, hi, he⟩ := Option.map_eq_some_iff.1 hz
    simp only [Prod.mk.injEq] at he
    obtain ⟨he1, he2, he3⟩ := he
    have hh := r.st.holds _ (List.mem_of_getElem? hr)
    have hlen : ess.length + news.length ≤ maxLen := by
      have : (ess.length + news.length) * 1 ≤ (ess.length + news.length) * by_ := Nat.mul_le_mul_left _ hby
      have : maxLen = 9223372036854775807 := rfl
      omega
    -- what is appended: its shape, its cells
    have hu : ∃ B c2, u = .slice B news.length c2 ∧ (∀ q ∈ news, q.length = sz) ∧ (0 < news.length → ∃ ad, B = some ad ∧ ∀ j c, news.flatten[j]? = some c → w.cell? (ad.add j) = some c) := by
      rcases hsrc with ⟨q, e2, hq⟩ | ⟨φ, hφ, hsl⟩
      · have h2 := r.st.holds _ (List.mem_of_getElem? hq)
        obtain ⟨B, c2, rfl, _⟩ := row_shape h2
        refine ⟨B, c2, rfl, h2.2, fun hn => ?_⟩
        obtain ⟨gb, cap, cur, he, _⟩ := row_form h2 hn
        cases he
        exact ⟨_, rfl, h2.1.cells rfl⟩
      · obtain ⟨h3, _, B, c2, rfl, _, h4⟩ := id hsl
        refine ⟨B, c2, rfl, h3, fun hn => ?_⟩
        obtain ⟨b, off, arr, t', fr, rfl, hb1, hb2⟩ := h4 hn
        refine ⟨_, rfl, fun j c hc => ?_⟩
        rw [add_mk]
        exact Pt.cells (φ := φ) ⟨b, off, arr, t', fr, rfl, hb1, hb2⟩ (r.st.sub φ hφ) j c hc
    obtain ⟨B, c2, rfl, hnl, hcells⟩ := hu
    by_cases h0 : news.length = 0
    · obtain rfl : news = [] := List.eq_nil_of_length_eq_zero h0
      obtain ⟨A, cap, rfl, hcap⟩ := row_shape hh
      have hrun := run_append_empty (P := P) (ty := ty) (A := A) (B := B) (c2 := c2) ht hi hcap w
      refine ⟨_, w, os.set i (Res.row (.slice A ess.length cap) e sz (ess ++ [])), fs, ?_, ?_, hk _ (by simp) (fun b _ h => h)⟩
      · simp only [List.length_nil] at *
        simp [execOp, resolve, invoke, builtin, r.ag.eval hx, r.ag.eval hy, hrun]
      · rw [List.append_nil]
        have : os.set i (Res.row (.slice A ess.length cap) e sz ess) = os := set_same hr
        rw [this]; exact r.st
    · obtain ⟨ad, rfl, hc⟩ := hcells (by omega)
      obtain ⟨v', w', hrun, hown, hgr, hnil, hat⟩ := run_append_own_at (P := P) w 0 t ty e i0 z sz by_ ht hi he1 he2 he3 hzs hsz v ess.length ess.flatten hh.1 ad news.length c2 news.flatten (flatten_length hnl) hc
        (fun c hc => by obtain ⟨q, hq1, hq2⟩ := List.mem_flatten.1 hc; exact h1 q hq1 c hq2) hlen hb (Nat.zero_le _)
      have hown' : w'.ownsRow 0 e sz v' (ess ++ news).length (ess ++ news).flatten := by rw [List.length_append, List.flatten_append]; exact hown
      have hhold : (Res.row v' e sz (ess ++ news)).holds w' := ⟨hown', fun q hq => (List.mem_append.1 hq).elim (hh.2 q) (hnl q)⟩
      refine ⟨v', w', os.set i (.row v' e sz (ess ++ news)), fs, ?_, ?_, hk v' (fun _ => ?_) (fun b hbS hne he => ?_)⟩
      · simp [execOp, resolve, invoke, builtin, r.ag.eval hx, r.ag.eval hy, hrun]
      · refine r.st.turnAt hr (keep_grown hgr) (fun q hq => by simpa [Res.foot] using hq) hhold (fun b hb' => ?_)
        simp only [Res.foot] at hb' ⊢
        rcases hat with h2 | h2
        · left; rw [← h2]; exact hb'
        · right; rw [h2] at hb'; simp at hb'; omega
      · obtain ⟨gb, cap, cur, he, _⟩ := row_form hhold (by rw [List.length_append]; omega)
        exact ⟨gb, cap, he⟩
      · rcases hat with h2 | h2
        · rw [h2] at he; exact hne he
        · rw [h2] at he
          simp at he
          have := hS b hbS
          have := r.st.keep.size
          omega

/-! ### Bytes to a string -/
theorem y_bytesS {x : Operand} {src dst e : TypeId} {φ : Frag} {v : Value} {l : List UInt8} (hx : ev s x = some v) (hφ : φ ∈ fs) (hv : Sl φ v 1 (l.map fun c => [byte c])) (hs : P.underlying src = some (.slice e)) (he : P.underlying e = some (.int .u8)) (ht : P.underlying dst = some .string) :
    Y P (Hold os fs) s (.convert src dst x) (str l) := by
  obtain ⟨_, _, A, cap, rfl, _, h2⟩ := hv
  intro o ρ w ho h hH
  have hrun : (convert src dst (.slice A (l.map fun c => [byte c]).length cap)).run P w = .ok (str l) w := by
    by_cases h0 : l.length = 0
    · obtain rfl : l = [] := List.eq_nil_of_length_eq_zero h0
      cases A with
      | none => exact run_convert_bytes_nil w src e hs he 0 cap dst ht
      | some ad => exact run_convert_bytes_back w src dst e ad cap [] hs he ht (by simp)
    · obtain ⟨b, off, arr, t', fr, rfl, h3, h4⟩ := h2 (by simp; omega)
      rw [List.length_map]
      refine run_convert_bytes_back w src dst e _ cap l hs he ht fun j hj => ?_
      rw [add_mk]
      refine Pt.cells (φ := φ) ⟨b, off, arr, t', fr, rfl, h3, h4⟩ (hH.2 φ hφ) j _ ?_
      have h5 : (l.map fun c => [byte c])[j]? = some [byte l[j]] := by simp [hj]
      have := flatten_get (sz := 1) (q := 0) (u := byte l[j]) (by simp) h5 rfl
      simpa [byte] using this
  rw [List.length_map] at hrun
  simp [execOp, ho, h x _ hx, Sem.run_bind, hrun]
theorem y_bytesR (i : Nat) {x : Operand} {src dst e e' : TypeId} {v : Value} {l : List UInt8} (hx : ev s x = some v) (hr : os[i]? = some (.row v e' 1 (l.map fun c => [byte c]))) (hs : P.underlying src = some (.slice e)) (he : P.underlying e = some (.int .u8)) (ht : P.underlying dst = some .string) :
    Y P (Hold os fs) s (.convert src dst x) (str l) := fun o ρ w ho h hH => by
  have hh := hH.1 _ (List.mem_of_getElem? hr)
  have hrun : (convert src dst v).run P w = .ok (str l) w := by
    by_cases h0 : l.length = 0
    · obtain rfl : l = [] := List.eq_nil_of_length_eq_zero h0
      obtain ⟨A, cap, rfl, _⟩ := row_shape hh
      cases A with
      | none => exact run_convert_bytes_nil w src e hs he 0 cap dst ht
      | some ad => exact run_convert_bytes_back w src dst e ad cap [] hs he ht (by simp)
    · obtain ⟨gb, cap, cur, rfl, _⟩ := row_form hh (by simp; omega)
      rw [List.length_map]
      refine run_convert_bytes_back w src dst e _ cap l hs he ht fun j hj => ?_
      have h5 : (l.map fun c => [byte c])[j]? = some [byte l[j]] := by simp [hj]
      have h6 := flatten_get (sz := 1) (q := 0) (u := byte l[j]) (by simp) h5 rfl
      exact hh.1.cells rfl j _ (by simpa [byte] using h6)
  simp [execOp, ho, h x _ hx, Sem.run_bind, hrun]
end
end Go.Proofs.Sep
