/- Functions of the library without a body; copies within and between rows. -/
import Derived.Test.YtpnhedlciamegaaDoorSepJ
import Derived.Great.FillDense
set_option linter.all false
set_option linter.unnecessarySimpa false
set_option linter.deprecated false
set_option linter.unusedVariables false
set_option linter.unusedSimpArgs false
namespace Go.Proofs.Sep
open Go Go.RowKit

/-- A function without a body, by its entry. -/
def Ext (P : Program) (f : FuncId) (e : Array Value → Sem Value) : Prop :=
  ∃ fn, P.funcs[f]? = some fn ∧ (fn.name == "runtime.NumGoroutine") = false ∧ fn.body.isNone = true ∧ Extern.findNext fn = none ∧ Extern.find fn = some e
section
variable {P : Program} {ro : Option Nat} {n : Nat} {E : Env} {Q : SQ} {K : SK} {ds : List Deferred} {s : Sto} {os : List Res} {fs : List Frag}
variable {H : World → Prop} {d : Nat} {ty : TypeId} {p : String} {af : Array Edge} {g : Option (Nat × Bool)}
theorem run_ext {f : FuncId} {e : Array Value → Sem Value} (h : Ext P f e) {args : Array Value} {w w' : World} {v : Value} (hr : (e args).run P w = .ok v w') : (callFunc f args).run P w = .ok (.value v) w' := by
  obtain ⟨fn, h1, h2, h3, h4, h5⟩ := h
  rw [run_callFunc_extern h1 h2 h3 h4 h5, hr]; rfl
theorem o_ext {f : FuncId} {e : Array Value → Sem Value} {as : Array Operand} {ats : Array TypeId} {vs : List Value} (he : Ext P f e) (ha : as.toList.mapM (ev s) = some vs)
    (h : ∀ w, St E.w0 E.S E.F0 w os fs → ∃ v w' os' fs', (e vs.toArray).run P w = .ok v w' ∧ St E.w0 E.S E.F0 w' os' fs' ∧ K ds ((d, v) :: s) os' fs') (hd : Nat.blt d n = true := by rfl) :
    OpS P ro n E Q ⟨some d, .call ⟨.value (.func f), as, ats⟩, ty, p, af, g⟩ K ds s os fs :=
  OpS.val (by simp) rfl hd fun a w r => by
    obtain ⟨v, w', os', fs', hr, hst, hk⟩ := h w r.st
    refine ⟨v, w', os', fs', ?_, hst, hk⟩
    have e1 : as.map a.eval = vs.toArray := by rw [← mapM_ev (fun x u hx => r.ag.eval hx) _ _ ha, ← Array.toList_map, Array.toArray_toList]
    have e2 : a.eval (.func f) = .func (.func f) #[] #[] := rfl
    simp [execOp, resolve, e2, Deferred.ofValue, invoke, e1, Sem.run_bind, run_ext he hr]
theorem o_noEscape {f : FuncId} {x : Operand} {ats : Array TypeId} {v : Value} (he : Ext P f Extern.AbiNoEscape.same) (hx : ev s x = some v) (hk : K ds ((d, v) :: s) os fs) (hd : Nat.blt d n = true := by rfl) :
    OpS P ro n E Q ⟨some d, .call ⟨.value (.func f), #[x], ats⟩, ty, p, af, g⟩ K ds s os fs :=
  o_ext he (vs := [v]) (by simp [hx]) (fun w hst => ⟨v, w, os, fs, rfl, hst, hk⟩) hd
end
end Go.Proofs.Sep
namespace Go.Proofs.Sep
open Go Go.RowKit
/-! ### Loops, said by what is known at a round's head -/
def At (ds0 : List Deferred) (S : Sto) (O : List Res) (F : List Frag) : SK := fun ds s os fs => ds = ds0 ∧ Le S s ∧ (∃ rest, os.Perm (O ++ rest)) ∧ ∀ φ ∈ F, φ ∈ fs
section
variable {P : Program} {ro : Option Nat} {n : Nat} {E : Env} {Q : SQ} {K : SK} {ds : List Deferred} {s : Sto} {os : List Res} {fs : List Frag}
theorem W.ofAt {c : Code} {ds0 : List Deferred} {S : Sto} {O : List Res} {F : List Frag} (h : At ds0 S O F ds s os fs) (k : W P ro n E c Q ds0 S O F) : W P ro n E c Q ds s os fs := by
  obtain ⟨rfl, hs, ⟨rest, hp⟩, hf⟩ := h
  exact W.perm _ hp (W.drop S O F hs (List.sublist_append_left _ _) hf k)
theorem W.loopI {c : Code} {ι : Type} (G : ι → Prop) (S : ι → Sto) (O : ι → List Res) (F : ι → List Frag) (μ : ι → Nat) (i0 : ι) (g0 : G i0) (h0 : At ds (S i0) (O i0) (F i0) ds s os fs)
    (round : ∀ i, G i → W P ro n E c (Then (fun ds' s os fs => ∃ j, G j ∧ μ j < μ i ∧ At ds (S j) (O j) (F j) ds' s os fs) Q) ds (S i) (O i) (F i)) : W P ro n E (.loop c) Q ds s os fs :=
  W.loop (fun d ds' s os fs => ∃ i, G i ∧ d = μ i ∧ At ds (S i) (O i) (F i) ds' s os fs) (μ i0) ⟨i0, g0, rfl, h0⟩ fun d ds' s os fs ⟨i, g, hd, ha⟩ =>
    W.ofAt ha (W.mono (round i g) fun e ds'' s os fs hq => by
      cases e with
      | normal => obtain ⟨j, gj, hj, hat⟩ := hq; exact ⟨μ j, by omega, j, gj, rfl, hat⟩
      | _ => exact hq)
theorem W.dropR {c : Code} (os' : List Res) (ho : os'.Sublist os) (h : W P ro n E c Q ds s os' fs) : W P ro n E c Q ds s os fs :=
  fun a w r => h a w ⟨r.ag, r.st.drop ho fun φ h => h⟩
theorem at1 {r : Res} (i : Nat) (h : os[i]? = some r) : ∃ rest, os.Perm ([r] ++ rest) := ⟨_, perm_at h⟩
theorem at0 : ∃ rest, os.Perm ([] ++ rest) := ⟨os, List.Perm.refl _⟩
theorem at2 {r r2 : Res} (i j : Nat) (h : os[i]? = some r) (h2 : (os.eraseIdx i)[j]? = some r2) : ∃ rest, os.Perm ([r, r2] ++ rest) := ⟨_, (perm_at h).trans ((perm_at h2).cons r)⟩
theorem at3 {r r2 r3 : Res} (i j k : Nat) (h : os[i]? = some r) (h2 : (os.eraseIdx i)[j]? = some r2) (h3 : ((os.eraseIdx i).eraseIdx j)[k]? = some r3) : ∃ rest, os.Perm ([r, r2, r3] ++ rest) :=
  ⟨_, (perm_at h).trans (((perm_at h2).trans ((perm_at h3).cons r2)).cons r)⟩
end
end Go.Proofs.Sep

namespace Go.Proofs.Sep
open Go Go.RowKit
section
variable {P : Program} {ro : Option Nat} {n : Nat} {E : Env} {Q : SQ} {K : SK} {ds : List Deferred} {s : Sto} {os : List Res} {fs : List Frag}
variable {d : Nat} {ty : TypeId} {p : String} {af : Array Edge} {g : Option (Nat × Bool)}
theorem mapM_pair {β : Type} (f : Operand → Option Value) : ∀ (l : List (Nat × Operand)) (vs : List Value), l.mapM (fun q => f q.2) = some vs → l.mapM (fun q => (f q.2).map fun v => (q.1, v)) = some ((l.map Prod.fst).zip vs)
  | [], vs, h => by simp at h; subst h; rfl
  | q :: l, vs, h => by
    rw [List.mapM_cons] at h
    cases hq : f q.2 with
    | none => rw [hq] at h; simp at h
    | some v =>
      cases hl : l.mapM (fun q => f q.2) with
      | none => rw [hq, hl] at h; simp at h
      | some vs' =>
        rw [hq, hl] at h
        simp at h
        subst h
        rw [List.mapM_cons, hq, mapM_pair (β := β) f l vs' hl]
        rfl
theorem zip_range : ∀ (vs : List Value) (k : Nat), (List.range' k vs.length).zip vs = (vs.zipIdx k).map fun x => (x.2, x.1)
  | [], k => by simp
  | v :: vs, k => by simp [List.range'_succ, zip_range vs (k + 1)]
/-- A slice built of all its elements. -/
theorem o_buildD {t e : TypeId} {len sz by_ : Nat} {z : Value} {parts : Array (Nat × Operand)} (vs : List Value) (ess : List (List Value)) (ht : P.underlying t = some (.slice e)) (hz : zeroIs P e z sz by_) (hzs : z.cells.size = sz) (hsz : 0 < sz)
    (h1 : parts.toList.map Prod.fst = List.range' 0 len) (h2 : parts.toList.mapM (fun q => ev s q.2) = some vs) (hl : vs.length = len) (hess : vs.map (fun v => v.cells.toList) = ess) (hes : ∀ x ∈ ess, x.length = sz) (hcap : len * sz ≤ 16777216)
    (hk : ∀ gb, gb ∉ E.S → K ds ((d, .slice (some ⟨gb, 0, none⟩) len len) :: s) (.row (.slice (some ⟨gb, 0, none⟩) len len) e sz ess :: os) fs) (hd : Nat.blt d n = true := by rfl) (hS : ∀ b ∈ E.S, b < E.w0.heap.size := by first | assumption | simp [foots]) :
    OpS P ro n E Q ⟨some d, .buildSlice t len parts, ty, p, af, g⟩ K ds s os fs := by
  subst hess
  have hsize : ∀ v ∈ vs, v.cells.size = sz := fun v hv => by have := hes v.cells.toList (List.mem_map_of_mem hv); simpa using this
  refine o_buildSlice ht hz hzs hsz (pv := (vs.zipIdx 0).map fun x => (x.2, x.1)) ?_ ?_ (by simpa using hl) hes hcap hk hd hS
  · rw [mapM_pair (β := Unit) (ev s) _ vs h2, h1, ← hl, zip_range]
  · have := Great.fill_whole hsz vs (madeCells z.cells (len * sz)) hsize (by rw [size_madeCells, hl])
    rw [this]
    rfl
end
end Go.Proofs.Sep
namespace Go.Proofs.Sep
open Go Go.RowKit
section
variable {P : Program} {ro : Option Nat} {n : Nat} {E : Env} {Q : SQ} {K : SK} {ds : List Deferred} {s : Sto} {os : List Res} {fs : List Frag}
theorem Ag.lit {ds : List Deferred} {a : Act} {t : Nat} {v v' : Value} (h : Ag n ds a s) (hv : Sto.get s t = some v) (he : v = v') : Ag n ds a ((t, v') :: s) := by
  subst he
  refine ⟨h.size, h.defers, fun u x hx => ?_⟩
  rw [get_cons] at hx
  by_cases e : t = u
  · subst e; rw [if_pos rfl] at hx; cases hx; exact h.vals t v hv
  · rw [if_neg e] at hx; exact h.vals u x hx
/-- A slot's bool, case by case. -/
theorem WL.caseB {ops : Array Oper} {l : List Oper} (t : Nat) {b : Bool} (hv : Sto.get s t = some (.bool b)) (h1 : b = true → WL P ro n E ops Q l ds ((t, .bool true) :: s) os fs) (h2 : b = false → WL P ro n E ops Q l ds ((t, .bool false) :: s) os fs) : WL P ro n E ops Q l ds s os fs := fun a w r => by
  cases b with
  | true => exact h1 rfl a w ⟨r.ag.lit hv rfl, r.st⟩
  | false => exact h2 rfl a w ⟨r.ag.lit hv rfl, r.st⟩
theorem W.caseB {c : Code} (t : Nat) {b : Bool} (hv : Sto.get s t = some (.bool b)) (h1 : b = true → W P ro n E c Q ds ((t, .bool true) :: s) os fs) (h2 : b = false → W P ro n E c Q ds ((t, .bool false) :: s) os fs) : W P ro n E c Q ds s os fs := fun a w r => by
  cases b with
  | true => exact h1 rfl a w ⟨r.ag.lit hv rfl, r.st⟩
  | false => exact h2 rfl a w ⟨r.ag.lit hv rfl, r.st⟩
theorem WD.caseB {ops : Array Oper} {T : Bool × List (List Nat × List Nat)} {oS : List Res} {fS : List Frag} {dl : List Nat} {fuel : Nat} {l : List Bool} (t : Nat) {b : Bool} (hv : Sto.get s t = some (.bool b)) (h1 : b = true → WD P ro n E ops Q T oS fS dl fuel l ds ((t, .bool true) :: s) os fs) (h2 : b = false → WD P ro n E ops Q T oS fS dl fuel l ds ((t, .bool false) :: s) os fs) :
    WD P ro n E ops Q T oS fS dl fuel l ds s os fs := fun hT hcl hin a w r => by
  cases b with
  | true => exact h1 rfl hT hcl hin a w ⟨r.ag.lit hv rfl, r.st⟩
  | false => exact h2 rfl hT hcl hin a w ⟨r.ag.lit hv rfl, r.st⟩
end
end Go.Proofs.Sep
