/- Returns with marks; rows as blocks of cells; a row's parts. -/
import Derived.Test.YtpnhedlciamegaaDoorSepM
set_option linter.all false
set_option linter.unnecessarySimpa false
set_option linter.deprecated false
set_option linter.unusedVariables false
set_option linter.unusedSimpArgs false
namespace Go.Proofs.Sep
open Go Go.RowKit
section
variable {P : Program} {fn : Func} {n : Nat} {E : Env} {post : Ending → List Res → List Frag → Prop} {s : Sto} {os os' : List Res} {fs fs' : List Frag}
theorem marks_nil {D : List Nat} (h : [] = marks D) : D = [] := by
  cases D with
  | nil => rfl
  | cons b D => simp [marks] at h
/-- A return behind ranges over functions. -/
theorem RetQ.marked {D : List Nat} {rest : List Res} (hp : os.Perm (D.map dblk ++ rest)) (h : RetQ P fn n E post .ret [] s rest fs) : RetQ P fn n E post .ret (marks D) s os fs := by
  obtain ⟨D0, rest0, h0, h1, v, os', fs', h2, h3⟩ := h
  obtain rfl := marks_nil h0
  exact ⟨D, rest0, rfl, hp.trans (List.Perm.append_left _ h1), v, os', fs', h2, h3⟩
theorem RetQ.markedN {D : List Nat} {rest : List Res} (hp : os.Perm (D.map dblk ++ rest)) (h : RetQ P fn n E post .normal [] s rest fs) : RetQ P fn n E post .normal (marks D) s os fs := by
  obtain ⟨D0, rest0, h0, h1, v, os', fs', h2, h3⟩ := h
  obtain rfl := marks_nil h0
  exact ⟨D, rest0, rfl, hp.trans (List.Perm.append_left _ h1), v, os', fs', h2, h3⟩
end

section
variable {P : Program} {ro : Option Nat} {n : Nat} {E : Env} {Q : SQ} {K : SK} {ds : List Deferred} {s : Sto} {os : List Res} {fs : List Frag}
variable {H : World → Prop} {d : Nat} {ty : TypeId} {p : String} {af : Array Edge} {g : Option (Nat × Bool)}
theorem St.same1 {w0 : World} {S : List Nat} {F0 : List Frag} {w : World} {r r' : Res} {i : Nat} (hr : os[i]? = some r) (h : St w0 S F0 w os fs) (hh : r'.holds w) (hf : ∀ b, r'.foot = some b → r.foot = some b) : St w0 S F0 w (os.set i r') fs :=
  h.turnAt hr (Keep.refl [] w) (by simp) hh fun b hb => .inl (hf b hb)
theorem take_app {α : Type} {l : List α} {k : Nat} {a : List α} (h : l.take k = a) : l = a ++ l.drop k := by rw [← h, List.take_append_drop]
/-- A row that is not empty, as a block of cells. -/
theorem St.rowCel {w0 : World} {S : List Nat} {F0 : List Frag} {w : World} (i : Nat) {v : Value} {e : TypeId} {sz : Nat} {ess : List (List Value)} (hr : os[i]? = some (.row v e sz ess)) (hn : 0 < ess.length) (h : St w0 S F0 w os fs) :
    ∃ gb cap spare, v = .slice (some ⟨gb, 0, none⟩) ess.length cap ∧ ess.length ≤ cap ∧ cap ≤ maxLen ∧ spare.length = (cap - ess.length) * sz ∧ (∀ x ∈ ess, x.length = sz) ∧ St w0 S F0 w (os.set i (cel gb e (ess.flatten ++ spare))) fs := by
  have hh := h.holds _ (List.mem_of_getElem? hr)
  obtain ⟨gb, cap, cur, rfl, hg, hc, hm, hs, ht⟩ := row_form hh hn
  have e1 := take_app ht
  have e2 : ess.flatten.length = ess.length * sz := flatten_length hh.2
  refine ⟨gb, cap, cur.toList.drop (ess.length * sz), rfl, hc, hm, ?_, hh.2, ?_⟩
  · rw [List.length_drop, Array.length_toList, hs, Nat.sub_mul]
  · refine h.same1 hr ?_ (by simp [Res.foot, Value.ownBlock])
    rw [← e1]
    simpa [Res.holds] using hg
theorem W.rowCel {c : Code} (i : Nat) {v : Value} {e : TypeId} {sz : Nat} {ess : List (List Value)} (hr : os[i]? = some (.row v e sz ess)) (hn : 0 < ess.length)
    (h : ∀ gb cap spare, v = .slice (some ⟨gb, 0, none⟩) ess.length cap → ess.length ≤ cap → cap ≤ maxLen → spare.length = (cap - ess.length) * sz → (∀ x ∈ ess, x.length = sz) → W P ro n E c Q ds s (os.set i (cel gb e (ess.flatten ++ spare))) fs) : W P ro n E c Q ds s os fs := fun a w r => by
  obtain ⟨gb, cap, spare, h1, h2, h3, h4, h5, h6⟩ := r.st.rowCel i hr hn
  exact h gb cap spare h1 h2 h3 h4 h5 a w ⟨r.ag, h6⟩
/-- A block of cells, as a row. -/
theorem St.celRow {w0 : World} {S : List Nat} {F0 : List Frag} {w : World} (i : Nat) {gb cap sz : Nat} {e : TypeId} {cs : List Value} (ess : List (List Value)) (hr : os[i]? = some (cel gb e cs)) (hs : ∀ x ∈ ess, x.length = sz) (hc : ess.length ≤ cap) (hm : cap ≤ maxLen) (hl : cs.length = cap * sz) (ht : cs.take (ess.length * sz) = ess.flatten) (h : St w0 S F0 w os fs) :
    St w0 S F0 w (os.set i (.row (.slice (some ⟨gb, 0, none⟩) ess.length cap) e sz ess)) fs := by
  have hh := h.holds _ (List.mem_of_getElem? hr)
  refine h.same1 hr ⟨⟨flatten_length hs, .inr ⟨gb, cap, cs.toArray, rfl, Nat.zero_le _, hh, hc, hm, by simpa using hl, by simpa using ht⟩⟩, hs⟩ (by simp [Res.foot, Value.ownBlock])
theorem W.celRow {c : Code} (i : Nat) {gb cap sz : Nat} {e : TypeId} {cs : List Value} (ess : List (List Value)) (hr : os[i]? = some (cel gb e cs)) (hs : ∀ x ∈ ess, x.length = sz) (hc : ess.length ≤ cap) (hm : cap ≤ maxLen) (hl : cs.length = cap * sz) (ht : cs.take (ess.length * sz) = ess.flatten)
    (h : W P ro n E c Q ds s (os.set i (.row (.slice (some ⟨gb, 0, none⟩) ess.length cap) e sz ess)) fs) : W P ro n E c Q ds s os fs := fun a w r =>
  h a w ⟨r.ag, r.st.celRow i ess hr hs hc hm hl ht⟩

/-! ### parts of a slice whose place is known -/
theorem y_sliceG {x : Operand} {t e : TypeId} {A : Option Addr} {l c sz i j : Nat} {lo hi : Option Operand} (hx : ev s x = some (.slice A l c)) (ht : P.underlying t = some (.slice e)) (hs : sizeIs P e sz = true)
    (hlo : match lo with | none => i = 0 | some y => ∃ k, ev s y = some (.int k (i : Int))) (hhi : match hi with | none => j = l | some y => ∃ k, ev s y = some (.int k (j : Int))) (hij : i ≤ j) (hj : j ≤ c) :
    Y P H s (.slice t x lo hi none) (.slice (if c = i then A else A.map (·.add (i * sz))) (j - i) (c - i)) := fun o ρ w ho h _ => by
  have := run_slice (P := P) (i := i) (j := j) ht hs (ρ := ρ) (x := x) (lo := lo) (hi := hi) (h x _ hx)
    (by cases lo with | none => exact hlo | some y => exact let ⟨k, hk⟩ := hlo; ⟨k, h _ _ hk⟩) (by cases hi with | none => exact hhi | some y => exact let ⟨k, hk⟩ := hhi; ⟨k, h _ _ hk⟩) hij hj w
  simp [execOp, ho, Sem.run_bind, this]
theorem y_sliceC {x : Operand} {t e : TypeId} {b off l c sz i j : Nat} {lo hi : Option Operand} (hx : ev s x = some (.slice (some ⟨b, off, none⟩) l c)) (ht : P.underlying t = some (.slice e)) (hs : sizeIs P e sz = true)
    (hlo : match lo with | none => i = 0 | some y => ∃ k, ev s y = some (.int k (i : Int))) (hhi : match hi with | none => j = l | some y => ∃ k, ev s y = some (.int k (j : Int))) (hij : i ≤ j) (hj : j ≤ c) :
    Y P H s (.slice t x lo hi none) (.slice (some (if c = i then ⟨b, off, none⟩ else ⟨b, off + i * sz, none⟩)) (j - i) (c - i)) := fun o ρ w ho h _ => by
  have := run_slice (P := P) (i := i) (j := j) ht hs (ρ := ρ) (x := x) (lo := lo) (hi := hi) (h x _ hx)
    (by cases lo with | none => exact hlo | some y => exact let ⟨k, hk⟩ := hlo; ⟨k, h _ _ hk⟩) (by cases hi with | none => exact hhi | some y => exact let ⟨k, hk⟩ := hhi; ⟨k, h _ _ hk⟩) hij hj w
  simp [execOp, ho, Sem.run_bind, this, add_mk]
  split <;> rfl
end
end Go.Proofs.Sep
