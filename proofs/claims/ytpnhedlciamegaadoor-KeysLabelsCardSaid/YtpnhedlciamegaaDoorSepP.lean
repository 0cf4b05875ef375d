/- Boxes of one cell, of many. -/
import Derived.Test.YtpnhedlciamegaaDoorSepO
set_option linter.all false
set_option linter.unusedSimpArgs false
set_option linter.unnecessarySimpa false
set_option linter.deprecated false
set_option linter.unusedVariables false
namespace Go.Proofs.Sep
open Go Go.RowKit
section
variable {P : Program} {ro : Option Nat} {n : Nat} {E : Env} {Q : SQ} {K : SK} {ds : List Deferred} {s : Sto} {os : List Res} {fs : List Frag}
variable {d : Nat} {ty : TypeId} {p : String} {af : Array Edge} {g : Option (Nat × Bool)}
theorem o_boxC {x : Operand} {t : TypeId} {v : Value} {cs : List Value} (hx : ev s x = some v) (hv : v.cells = cs.toArray) (hk : ∀ b, b ∉ E.S → K ds ((d, .pointer (some ⟨b, 0, none⟩)) :: s) (cel b t cs :: os) fs) (hd : Nat.blt d n = true := by rfl) (hS : ∀ b ∈ E.S, b < E.w0.heap.size := by first | assumption | simp [foots]) :
    OpS P ro n E Q ⟨some d, .box t x, ty, p, af, g⟩ K ds s os fs := by
  refine o_box hx (fun b hb => ?_) hd hS
  have e : v.cells.toList = cs := by rw [hv]
  rw [e]
  exact hk b hb
theorem o_box1 {x : Operand} {t : TypeId} {v : Value} (hx : ev s x = some v) (hv : v.cells = #[v]) (hk : ∀ b, b ∉ E.S → K ds ((d, .pointer (some ⟨b, 0, none⟩)) :: s) (cel b t [v] :: os) fs) (hd : Nat.blt d n = true := by rfl) (hS : ∀ b ∈ E.S, b < E.w0.heap.size := by first | assumption | simp [foots]) :
    OpS P ro n E Q ⟨some d, .box t x, ty, p, af, g⟩ K ds s os fs := o_boxC hx hv hk hd hS
theorem o_boxA {x : Operand} {t : TypeId} {cs : List Value} (hx : ev s x = some (.agg cs.toArray)) (hk : ∀ b, b ∉ E.S → K ds ((d, .pointer (some ⟨b, 0, none⟩)) :: s) (cel b t cs :: os) fs) (hd : Nat.blt d n = true := by rfl) (hS : ∀ b ∈ E.S, b < E.w0.heap.size := by first | assumption | simp [foots]) :
    OpS P ro n E Q ⟨some d, .box t x, ty, p, af, g⟩ K ds s os fs := o_boxC hx rfl hk hd hS
theorem o_allocC {t : TypeId} {z : Value} {sz by_ : Nat} (cs : List Value) (hz : zeroIs P t z sz by_) (hc : z.cells = cs.toArray) (hk : ∀ b, b ∉ E.S → K ds ((d, .pointer (some ⟨b, 0, none⟩)) :: s) (cel b t cs :: os) fs) (hd : Nat.blt d n = true := by rfl) (hS : ∀ b ∈ E.S, b < E.w0.heap.size := by first | assumption | simp [foots]) :
    OpS P ro n E Q ⟨some d, .alloc t, ty, p, af, g⟩ K ds s os fs := by
  refine o_alloc hz (fun b hb => ?_) hd hS
  have e : z.cells.toList = cs := by rw [hc]
  rw [e]
  exact hk b hb
/-- A row of elements of one cell. -/
theorem o_buildD1 {t e : TypeId} {len by_ : Nat} {z : Value} {parts : Array (Nat × Operand)} (vs : List Value) (ess : List (List Value)) (ht : P.underlying t = some (.slice e)) (hz : zeroIs P e z 1 by_) (hzs : z.cells.size = 1)
    (h1 : parts.toList.map Prod.fst = List.range' 0 len) (h2 : parts.toList.mapM (fun q => ev s q.2) = some vs) (hl : vs.length = len) (hess : vs.map (fun v => v.cells.toList) = vs.map (fun v => [v])) (he : vs.map (fun v => [v]) = ess) (hcap : len ≤ 16777216)
    (hk : ∀ gb, gb ∉ E.S → K ds ((d, .slice (some ⟨gb, 0, none⟩) len len) :: s) (.row (.slice (some ⟨gb, 0, none⟩) len len) e 1 ess :: os) fs) (hd : Nat.blt d n = true := by rfl) (hS : ∀ b ∈ E.S, b < E.w0.heap.size := by first | assumption | simp [foots]) :
    OpS P ro n E Q ⟨some d, .buildSlice t len parts, ty, p, af, g⟩ K ds s os fs := by
  subst he
  exact o_buildD vs (vs.map fun v => [v]) ht hz hzs (by omega) h1 h2 hl hess (by simp) (by omega) hk hd hS
/-- It returns a value alone; what is handed over is gone. -/
theorem o_callVr {d : Nat} {x : Operand} {as : Array Operand} {ats : Array TypeId} {f : FuncId} {c1 c2 : Array Value} {vs args : List Value} {rs rest : List Res} {cs : List Frag} {v : Value}
    (hs : Spec P f args.toArray rs cs (Val v)) (hc : Callee P f) (hx : ev s x = some (.func (.func f) c1 c2)) (ha : as.toList.mapM (ev s) = some vs) (hargs : c1.toList ++ vs ++ c2.toList = args) (hp : os.Perm (rs ++ rest))
    (hcs : ∀ φ ∈ cs, φ ∈ fs) (h : K ds ((d, v) :: s) rest fs) (hd : Nat.blt d n = true := by rfl) :
    OpS P ro n E Q ⟨some d, .call ⟨.value x, as, ats⟩, ty, p, af, g⟩ K ds s os fs :=
  o_callX hs hc hx ha hargs hp hcs (fun e rs' cs' ⟨he, h1, h2⟩ => by subst he; subst h1; subst h2; exact h) (fun t ht => by cases ht; exact hd)
/-- It returns; what is handed over is told by its order. -/
theorem o_callR {d : Nat} {x : Operand} {as : Array Operand} {ats : Array TypeId} {f : FuncId} {c1 c2 : Array Value} {vs args : List Value} {rs rest : List Res} {cs : List Frag} {post : Value → List Res → List Frag → Prop}
    (hs : Spec P f args.toArray rs cs (RetP post)) (hc : Callee P f) (hx : ev s x = some (.func (.func f) c1 c2)) (ha : as.toList.mapM (ev s) = some vs) (hargs : c1.toList ++ vs ++ c2.toList = args) (hp : os.Perm (rs ++ rest))
    (hcs : ∀ φ ∈ cs, φ ∈ fs) (h : ∀ v rs' cs', post v rs' cs' → K ds ((d, v) :: s) (rs' ++ rest) (cs' ++ fs)) (hd : Nat.blt d n = true := by rfl) :
    OpS P ro n E Q ⟨some d, .call ⟨.value x, as, ats⟩, ty, p, af, g⟩ K ds s os fs :=
  o_callX hs hc hx ha hargs hp hcs (fun e rs' cs' ⟨v, he, hp⟩ => by subst he; exact h v rs' cs' hp) (fun t ht => by cases ht; exact hd)
theorem OpS.permK {o : Oper} (h : OpS P ro n E Q o (fun ds s os fs => ∃ os', os.Perm os' ∧ K ds s os' fs) ds s os fs) : OpS P ro n E Q o K ds s os fs := fun a w r =>
  Oper.wpIn_mono (fun a' w' ⟨ds, s, os, fs, ⟨os', hp, hk⟩, hr⟩ => ⟨ds, s, os', fs, hk, hr.ag, hr.st.perm hp⟩) (h a w r)
/-- It returns; what the caller keeps stands first. -/
theorem o_callF {d : Nat} {x : Operand} {as : Array Operand} {ats : Array TypeId} {f : FuncId} {c1 c2 : Array Value} {vs args : List Value} {rs rest : List Res} {cs : List Frag} {post : Value → List Res → List Frag → Prop}
    (hs : Spec P f args.toArray rs cs (RetP post)) (hc : Callee P f) (hx : ev s x = some (.func (.func f) c1 c2)) (ha : as.toList.mapM (ev s) = some vs) (hargs : c1.toList ++ vs ++ c2.toList = args) (hp : os.Perm (rs ++ rest))
    (hcs : ∀ φ ∈ cs, φ ∈ fs) (h : ∀ v rs' cs', post v rs' cs' → K ds ((d, v) :: s) (rest ++ rs') (cs' ++ fs)) (hd : Nat.blt d n = true := by rfl) :
    OpS P ro n E Q ⟨some d, .call ⟨.value x, as, ats⟩, ty, p, af, g⟩ K ds s os fs :=
  OpS.permK (o_callR hs hc hx ha hargs hp hcs (fun v rs' cs' hp => ⟨_, List.perm_append_comm, h v rs' cs' hp⟩) hd)
/-- It returns; what it reads is borrowed; what the caller keeps stands first. -/
theorem o_callBF {x : Operand} {as : Array Operand} {ats : Array TypeId} {f : FuncId} {c1 c2 : Array Value} {vs args : List Value} {post : Value → List Res → Prop} {d : Nat}
    (hs : ∀ w, St E.w0 E.S E.F0 w os fs → ∃ cs, (∀ φ ∈ cs, Sub φ w) ∧ Spec P f args.toArray [] cs (RetP fun v rs' cs' => cs' = [] ∧ post v rs')) (hc : Callee P f) (hx : ev s x = some (.func (.func f) c1 c2)) (ha : as.toList.mapM (ev s) = some vs) (hargs : c1.toList ++ vs ++ c2.toList = args)
    (h : ∀ v rs', post v rs' → K ds ((d, v) :: s) (os ++ rs') fs) (hd : Nat.blt d n = true := by rfl) :
    OpS P ro n E Q ⟨some d, .call ⟨.value x, as, ats⟩, ty, p, af, g⟩ K ds s os fs :=
  OpS.permK (o_callB hs hc hx ha hargs (fun v rs' hp => ⟨_, List.perm_append_comm, h v rs' hp⟩) hd)
theorem y_lookupR {x y : Operand} {t : TypeId} {φ : Frag} {m k v : Value} (hx : ev s x = some m) (hy : ev s y = some k) (hφ : φ ∈ fs) (h : ∀ w, Sub φ w → (Instr.lookup t m k false).run P w = .ok v w) : Y P (Hold os fs) s (.lookup t x y false) v := fun o ρ w ho hρ hH => by
  simp [execOp, ho, hρ x _ hx, hρ y _ hy, h w (hH.2 φ hφ)]
theorem WL.rowShape {ops : Array Oper} {l : List Oper} (i : Nat) {v : Value} {e : TypeId} {sz : Nat} {ess : List (List Value)} (hr : os[i]? = some (.row v e sz ess)) (h : ∀ A cap, v = .slice A ess.length cap → ess.length ≤ cap → WL P ro n E ops Q l ds s os fs) : WL P ro n E ops Q l ds s os fs := fun a w r => by
  obtain ⟨A, cap, h1, h2⟩ := row_shape (r.st.holds _ (List.mem_of_getElem? hr))
  exact h A cap h1 h2 a w r
theorem St.borrowC {w0 w : World} {S : List Nat} {F0 : List Frag} (h : St w0 S F0 w os fs) {i b sz cap : Nat} {t : TypeId} {cs : List Value} (ess : List (List Value)) (hr : os[i]? = some (cel b t cs)) (hs : ∀ x ∈ ess, x.length = sz) (hc : ess.length ≤ cap) (hl : ess.length ≤ 9223372036854775807) (ht : cs.take ess.flatten.length = ess.flatten) :
    ∃ φ, Sub φ w ∧ Sl φ (.slice (some ⟨b, 0, none⟩) ess.length cap) sz ess :=
  ⟨_, Res.frag_sub w (cel b t cs), hs, hl, _, cap, rfl, hc, fun _ => ⟨b, 0, cs.toArray, t, (0, 0), rfl, (if_pos rfl).trans (h.holds _ (List.mem_of_getElem? hr)), by simpa using ht⟩⟩
/-- It returns a value alone; what it reads is borrowed. -/
theorem o_callBV {d : Nat} {x : Operand} {as : Array Operand} {ats : Array TypeId} {f : FuncId} {c1 c2 : Array Value} {vs args : List Value} {v : Value}
    (hs : ∀ w, St E.w0 E.S E.F0 w os fs → ∃ cs, (∀ φ ∈ cs, Sub φ w) ∧ Spec P f args.toArray [] cs (Val v)) (hc : Callee P f) (hx : ev s x = some (.func (.func f) c1 c2)) (ha : as.toList.mapM (ev s) = some vs) (hargs : c1.toList ++ vs ++ c2.toList = args)
    (h : K ds ((d, v) :: s) os fs) (hd : Nat.blt d n = true := by rfl) :
    OpS P ro n E Q ⟨some d, .call ⟨.value x, as, ats⟩, ty, p, af, g⟩ K ds s os fs :=
  o_callB (post := fun u rs' => u = v ∧ rs' = []) (fun w hst => by
    obtain ⟨cs, h1, h2⟩ := hs w hst
    exact ⟨cs, h1, h2.mono fun e rs' cs' ⟨he, h3, h4⟩ => ⟨v, he, h4, rfl, h3⟩⟩) hc hx ha hargs (fun u rs' ⟨h1, h2⟩ => by subst h1; subst h2; exact h) hd
end
theorem Spec.more {P : Program} {f : FuncId} {args : Array Value} {rs : List Res} {fs fs' : List Frag} {post : Ending → List Res → List Frag → Prop} (h : Spec P f args rs fs post) (hs : ∀ φ ∈ fs, φ ∈ fs') : Spec P f args rs fs' post := fun w hp =>
  (h w ⟨hp.holds, fun φ hφ => hp.sub φ (hs φ hφ), hp.apart, fun r hr b hb φ hφ => hp.away r hr b hb φ (hs φ hφ)⟩).mono fun e w' ⟨rs', cs', h1, h2⟩ =>
    ⟨rs', cs', h1, h2.keep, h2.holds, h2.sub, h2.apart, h2.away, fun φ hφ b hb => (h2.orig φ hφ b hb).imp id (Or.imp id fun ⟨φ0, h3, h4⟩ => ⟨φ0, hs φ0 h3, h4⟩)⟩
theorem take_getD {α : Type} {l : List α} {i : Nat} (h : i < l.length) (z : α) : l.take (i + 1) = l.take i ++ [l.getD i z] := by
  rw [List.take_add_one, List.getElem?_eq_getElem h, List.getD_eq_getElem?_getD, List.getElem?_eq_getElem h]
  rfl
theorem flat_take {α : Type} {l : List (List α)} {i : Nat} (h : i < l.length) : (l.take i).flatten.length + (l.getD i []).length ≤ l.flatten.length := by
  have h1 : (l.take (i + 1)).flatten.length ≤ l.flatten.length := by
    have h2 : l.flatten = (l.take (i + 1)).flatten ++ (l.drop (i + 1)).flatten := by rw [← List.flatten_append, List.take_append_drop]
    rw [h2, List.length_append]
    omega
  rw [take_getD h [], List.flatten_append, List.length_append] at h1
  simpa using h1
end Go.Proofs.Sep
