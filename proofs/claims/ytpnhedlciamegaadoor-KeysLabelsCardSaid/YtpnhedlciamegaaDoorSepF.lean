/- A function's contract out of its body; returns; calls. -/
import Derived.Test.YtpnhedlciamegaaDoorSepE
set_option linter.all false
set_option linter.unnecessarySimpa false
set_option linter.deprecated false
set_option linter.unusedVariables false
set_option linter.unusedSimpArgs false
namespace Go.Proofs.Sep
open Go Go.RowKit

def argFrom : Nat → List Value → Sto
  | _, [] => []
  | k, v :: r => (k, v) :: argFrom (k + 1) r
theorem argFrom_get : ∀ (l : List Value) (k t : Nat) (v : Value), Sto.get (argFrom k l) t = some v → k ≤ t ∧ l[t - k]? = some v
  | [], k, t, v, h => by simp [argFrom, Sto.get] at h
  | u :: r, k, t, v, h => by
    rw [argFrom, get_cons] at h
    by_cases e : k = t
    · subst e; simp at h; subst h; simp
    · rw [if_neg e] at h
      obtain ⟨h1, h2⟩ := argFrom_get r (k + 1) t v h
      refine ⟨by omega, ?_⟩
      rw [show t - k = (t - (k + 1)) + 1 from by omega, List.getElem?_cons_succ]
      exact h2

/-- The marks of ranges over functions, among the deferred calls; their blocks. -/
def marks (D : List Nat) : List Deferred := D.map fun b => { target := .collected b, args := #[] }
def dblk (b : Nat) : Res := .blk b (.deferred (some []))
def RetQ (P : Program) (fn : Func) (n : Nat) (E : Env) (post : Ending → List Res → List Frag → Prop) : SQ
  | .ret | .normal => fun ds s os fs => ∃ D rest, ds = marks D ∧ os.Perm (D.map dblk ++ rest) ∧ ∃ v os' fs', (∀ a w, Rep n E [] s rest fs a w → (results fn a.tmps).run P w = .ok v w) ∧ os'.Sublist rest ∧ (∀ φ ∈ fs', φ ∈ fs) ∧ post (.returned v) os' fs'
  | .panic ch => fun ds s os fs => ∃ D rest, ds = marks D ∧ os.Perm (D.map dblk ++ rest) ∧ ∃ os' fs', os'.Sublist rest ∧ (∀ φ ∈ fs', φ ∈ fs) ∧ post (.panicked ch) os' fs'
  | _ => fun _ _ _ _ => False

theorem keep_putObj (w : World) (b : Nat) (o : Obj) : Keep [b] w (w.putObj b o) :=
  ⟨rfl, rfl, rfl, by simp, fun i hi hn => World.putObj_heap_other (by simpa using hn)⟩
/-- The marks are taken, one by one. -/
theorem leavesM {F : Fence} {P : Program} {fn : Func} {tmps : Array Value} {R : Ending → World → Prop} {w0 : World} {S : List Nat} {F0 : List Frag} {fs : List Frag} {u : FrameMode} (hu : u ≠ .run) :
    ∀ (D : List Nat) (rest : List Res) (w : World), St w0 S F0 w (D.map dblk ++ rest) fs → (∀ w', St w0 S F0 w' rest fs → LeavesInM F 0 P fn tmps R [] u w') → LeavesInM F 0 P fn tmps R (marks D) u w
  | [], rest, w, h, hk => hk w h
  | b :: D, rest, w, h, hk => by
    have hb : w.heap[b]? = some (.deferred (some [])) := h.holds (dblk b) (by simp)
    refine ⟨hu, .inl ⟨b, w.putObj b (.deferred none), rfl, run_takeDeferred hb, ?_⟩⟩
    have hlt := (Array.getElem?_eq_some_iff.1 hb).1
    have h2 := St.turn (r := dblk b) (r' := .blk b (.deferred none)) (os := D.map dblk ++ rest) (by simpa using h) (keep_putObj w b _) (by simp [Res.foot, dblk]) (World.putObj_heap_same hlt) (fun b' hb' => .inl hb')
    exact leavesM hu D rest _ (h2.drop (List.sublist_cons_self _ _) fun φ hφ => hφ) hk

theorem Spec.body {P : Program} {f : FuncId} {fn : Func} {c : Code} {args : List Value} {rs : List Res} {fs : List Frag} {post : Ending → List Res → List Frag → Prop} {n : Nat}
    (hf : P.funcs[f]? = some fn) (hb : fn.body = some c) (hn : fn.ntmps = n) (hsz : args.length ≤ n)
    (h : ∀ w0, (∀ b ∈ foots rs, b < w0.heap.size) → W P none n ⟨w0, foots rs, fs⟩ c (RetQ P fn n ⟨w0, foots rs, fs⟩ post) [] (argFrom 0 args) rs fs) : Spec P f args.toArray rs fs post := fun w hp => by
  have hlt : ∀ b ∈ foots rs, b < w.heap.size := fun b hb => by
    obtain ⟨r, hr, e⟩ := mem_foots.1 hb
    exact Res.foot_lt (hp.holds r hr) e
  have hag : Ag n [] { tmps := args.toArray ++ Array.replicate (fn.ntmps - args.toArray.size) undef, defers := [] } (argFrom 0 args) := by
    refine ⟨by simp; omega, rfl, fun t v hv => ?_⟩
    obtain ⟨_, h2⟩ := argFrom_get args 0 t v hv
    rw [Nat.sub_zero] at h2
    have ht := (List.getElem?_eq_some_iff.1 h2).1
    simp only
    rw [Array.getElem?_append_left (by simpa using ht)]
    simpa using h2
  have hw := h w hlt _ w ⟨hag, hp.st⟩
  refine calls_FW (ro := none) (k := 0) (callsIn_of_wp_marks hf hb trivial (wpIn_mono hw fun e a' w' hq => ?_))
  obtain ⟨ds, s, os, fs', hq, hr, _⟩ := hq
  have done : ∀ {w' : World} {e : Ending} {rest os' : List Res} {fs'' : List Frag}, St w (foots rs) fs w' rest fs' → os'.Sublist rest → (∀ φ ∈ fs'', φ ∈ fs') → post e os' fs'' → ∃ rs' fs', post e rs' fs' ∧ St w (foots rs) fs w' rs' fs' :=
    fun h0 h1 h2 h3 => ⟨_, _, h3, h0.drop h1 h2⟩
  have hretc : (∃ D rest, ds = marks D ∧ os.Perm (D.map dblk ++ rest) ∧ ∃ v os' fs'', (∀ a w', Rep n ⟨w, foots rs, fs⟩ [] s rest fs' a w' → (results fn a.tmps).run P w' = .ok v w') ∧ os'.Sublist rest ∧ (∀ φ ∈ fs'', φ ∈ fs') ∧ post (.returned v) os' fs'') →
      LeavesInM (FW none) 0 P fn a'.tmps (fun e w' => ∃ rs' fs', post e rs' fs' ∧ St w (foots rs) fs w' rs' fs') a'.defers .returning w' := fun ⟨D, rest, hds, hp, v, os', fs'', h1, h2, h3, h4⟩ => by
    rw [hr.ag.defers, hds]
    refine leavesM (by simp) D rest w' (hr.st.perm hp) fun w'' hst => ⟨v, h1 { a' with defers := [] } w'' ⟨⟨hr.ag.size, rfl, hr.ag.vals⟩, hst⟩, done hst h2 h3 h4⟩
  cases e with
  | normal => exact hretc hq
  | ret => exact hretc hq
  | panic ch =>
    obtain ⟨D, rest, hds, hp, os', fs'', h2, h3, h4⟩ := hq
    show LeavesInM (FW none) 0 P fn a'.tmps _ a'.defers (.panicking ch) w'
    rw [hr.ag.defers, hds]
    exact leavesM (by simp) D rest w' (hr.st.perm hp) fun w'' hst => done hst h2 h3 h4
  | exit id => exact hq.elim
  | goto l => exact hq.elim
  | outgrown => exact hq.elim

theorem Spec.mono {P : Program} {f : FuncId} {args : Array Value} {rs : List Res} {fs : List Frag} {post post' : Ending → List Res → List Frag → Prop} (h : Spec P f args rs fs post) (hp : ∀ e rs' fs', post e rs' fs' → post' e rs' fs') : Spec P f args rs fs post' :=
  fun w hw => (h w hw).mono fun e w' ⟨rs', fs', h1, h2⟩ => ⟨rs', fs', hp _ _ _ h1, h2⟩
/-- It returns. -/
def RetP (post : Value → List Res → List Frag → Prop) : Ending → List Res → List Frag → Prop := fun e rs cs => ∃ v, e = .returned v ∧ post v rs cs
/-- It panics. -/
def PanP (post : List PanicEntry → List Res → List Frag → Prop) : Ending → List Res → List Frag → Prop := fun e rs cs => ∃ ch, e = .panicked ch ∧ post ch rs cs
/-- It returns v, having made nothing that the caller is told of. -/
def Val (v : Value) : Ending → List Res → List Frag → Prop := fun e rs cs => e = .returned v ∧ rs = [] ∧ cs = []

section
variable {P : Program} {fn : Func} {n : Nat} {E : Env} {post : Ending → List Res → List Frag → Prop} {s : Sto} {os os' : List Res} {fs fs' : List Frag}
theorem ret1 {t : Tmp} {v : Value} (hr : fn.results = #[.tmp t]) (ht : Sto.get s t = some v) (os' : List Res) (fs' : List Frag) (hp : post (.returned v) os' fs') (ho : os'.Sublist os) (hf : ∀ φ ∈ fs', φ ∈ fs) : RetQ P fn n E post .ret [] s os fs :=
  ⟨[], os, rfl, List.Perm.refl _, v, os', fs', fun a w r => by rw [results_tmp hr]; simp [Array.getD_eq_getD_getElem?, r.ag.vals t v ht], ho, hf, hp⟩
theorem ret2 {t u : Tmp} {v x : Value} (hr : fn.results = #[.tmp t, .tmp u]) (ht : Sto.get s t = some v) (hu : Sto.get s u = some x) (os' : List Res) (fs' : List Frag) (hp : post (.returned (.tuple #[v, x])) os' fs') (ho : os'.Sublist os) (hf : ∀ φ ∈ fs', φ ∈ fs) : RetQ P fn n E post .ret [] s os fs :=
  ⟨[], os, rfl, List.Perm.refl _, _, os', fs', fun a w r => by rw [results_tmp2 hr]; simp [Array.getD_eq_getD_getElem?, r.ag.vals t v ht, r.ag.vals u x hu], ho, hf, hp⟩
theorem ret3 {t u q : Tmp} {v x y : Value} (hr : fn.results = #[.tmp t, .tmp u, .tmp q]) (ht : Sto.get s t = some v) (hu : Sto.get s u = some x) (hq : Sto.get s q = some y) (os' : List Res) (fs' : List Frag) (hp : post (.returned (.tuple #[v, x, y])) os' fs') (ho : os'.Sublist os) (hf : ∀ φ ∈ fs', φ ∈ fs) : RetQ P fn n E post .ret [] s os fs :=
  ⟨[], os, rfl, List.Perm.refl _, .tuple #[v, x, y], os', fs', fun a w r => by simp [results, hr, Array.getD_eq_getD_getElem?, r.ag.vals t v ht, r.ag.vals u x hu, r.ag.vals q y hq], ho, hf, hp⟩
theorem ret0 (hr : fn.results = #[]) (os' : List Res) (fs' : List Frag) (hp : post (.returned (.tuple #[])) os' fs') (ho : os'.Sublist os) (hf : ∀ φ ∈ fs', φ ∈ fs) : RetQ P fn n E post .ret [] s os fs :=
  ⟨[], os, rfl, List.Perm.refl _, _, os', fs', fun a w r => results_none hr _ _ _, ho, hf, hp⟩
theorem end0 (hr : fn.results = #[]) (os' : List Res) (fs' : List Frag) (hp : post (.returned (.tuple #[])) os' fs') (ho : os'.Sublist os) (hf : ∀ φ ∈ fs', φ ∈ fs) : RetQ P fn n E post .normal [] s os fs :=
  ⟨[], os, rfl, List.Perm.refl _, _, os', fs', fun a w r => results_none hr _ _ _, ho, hf, hp⟩
theorem retPanic {ch : List PanicEntry} (os' : List Res) (fs' : List Frag) (hp : post (.panicked ch) os' fs') (ho : os'.Sublist os) (hf : ∀ φ ∈ fs', φ ∈ fs) : RetQ P fn n E post (.panic ch) [] s os fs :=
  ⟨[], os, rfl, List.Perm.refl _, os', fs', ho, hf, hp⟩
end

/-! ### Calls -/
def Callee (P : Program) (f : FuncId) : Prop := ∃ fn, P.funcs[f]? = some fn ∧ (fn.name == "runtime.NumGoroutine") = false ∧ fn.body.isSome = true
theorem run_callFunc {P : Program} {f : FuncId} (h : Callee P f) (args : Array Value) (w : World) : (callFunc f args).run P w = .ok (.enter f args) w := by
  obtain ⟨fn, hf, hname, hb⟩ := h
  have h1 : fn.name ≠ "runtime.NumGoroutine" := by simpa using hname
  obtain ⟨c, hc⟩ := Option.isSome_iff_exists.1 hb
  simp [callFunc, hf, h1, hc]

section
variable {P : Program} {ro : Option Nat} {n : Nat} {E : Env} {Q : SQ} {K : SK} {ds : List Deferred} {s : Sto} {os : List Res} {fs : List Frag}
variable {dd : Option Nat} {ty : TypeId} {p : String} {af : Array Edge} {g : Option (Nat × Bool)}
theorem mapM_ev {ρ : Operand → Value} (h : ∀ x u, ev s x = some u → ρ x = u) : ∀ (l : List Operand) (c : List Value), l.mapM (ev s) = some c → l.map ρ = c := by
  intro l
  induction l with
  | nil => intro c hc; simp at hc; simp [hc]
  | cons x l ih =>
    intro c hc
    rw [List.mapM_cons] at hc
    cases hx : ev s x with
    | none => rw [hx] at hc; simp at hc
    | some v =>
      cases hl : l.mapM (ev s) with
      | none => rw [hx, hl] at hc; simp at hc
      | some c' =>
        rw [hx, hl] at hc
        simp at hc
        subst hc
        simp [h x v hx, ih _ hl]
theorem run_callOp {x : Operand} {as : Array Operand} {ats : Array TypeId} {f : FuncId} {c1 c2 : Array Value} {vs args : List Value} (hx : ev s x = some (.func (.func f) c1 c2)) (ha : as.toList.mapM (ev s) = some vs) (hargs : c1.toList ++ vs ++ c2.toList = args) (hc : Callee P f) :
    ∀ (ρ : Operand → Value) (w : World), (∀ x u, ev s x = some u → ρ x = u) → (execOp ρ ⟨dd, .call ⟨.value x, as, ats⟩, ty, p, af, g⟩).run P w = .ok (.enter f args.toArray) w := by
  intro ρ w h
  have e1 : as.map ρ = vs.toArray := by rw [← mapM_ev h _ _ ha, ← Array.toList_map, Array.toArray_toList]
  have e2 : c1 ++ vs.toArray ++ c2 = args.toArray := by
    rw [← hargs]
    apply Array.ext'
    simp
  simp only [execOp, resolve, h x _ hx, Deferred.ofValue, invoke, e1, Sem.run_bind, Sem.run_pure, Result.andThen_ok, e2]
  exact run_callFunc hc _ w

/-- The general form. -/
theorem o_callX {x : Operand} {as : Array Operand} {ats : Array TypeId} {f : FuncId} {c1 c2 : Array Value} {vs args : List Value} {rs rest : List Res} {cs : List Frag} {post : Ending → List Res → List Frag → Prop}
    (hs : Spec P f args.toArray rs cs post) (hc : Callee P f) (hx : ev s x = some (.func (.func f) c1 c2)) (ha : as.toList.mapM (ev s) = some vs) (hargs : c1.toList ++ vs ++ c2.toList = args)
    (hp : os.Perm (rs ++ rest)) (hcs : ∀ φ ∈ cs, φ ∈ fs)
    (h : ∀ e rs' cs', post e rs' cs' → match e with
      | .returned v => K ds (putS dd v s) (rs' ++ rest) (cs' ++ fs)
      | .panicked ch => Q (.panic ch) ds [] (rs' ++ rest) (cs' ++ fs)
      | .outgrown => False) (hd : ∀ t, dd = some t → Nat.blt t n = true) :
    OpS P ro n E Q ⟨dd, .call ⟨.value x, as, ats⟩, ty, p, af, g⟩ K ds s os fs :=
  OpS.enter (by simp) rfl hd (run_callOp hx ha hargs hc) hs hp hcs h
/-- It returns; nothing of the caller's own is handed over. -/
theorem o_call {d : Nat} {x : Operand} {as : Array Operand} {ats : Array TypeId} {f : FuncId} {c1 c2 : Array Value} {vs args : List Value} {cs : List Frag} {post : Value → List Res → List Frag → Prop}
    (hs : Spec P f args.toArray [] cs (RetP post)) (hc : Callee P f) (hx : ev s x = some (.func (.func f) c1 c2)) (ha : as.toList.mapM (ev s) = some vs) (hargs : c1.toList ++ vs ++ c2.toList = args)
    (hcs : ∀ φ ∈ cs, φ ∈ fs) (h : ∀ v rs' cs', post v rs' cs' → K ds ((d, v) :: s) (rs' ++ os) (cs' ++ fs)) (hd : Nat.blt d n = true := by rfl) :
    OpS P ro n E Q ⟨some d, .call ⟨.value x, as, ats⟩, ty, p, af, g⟩ K ds s os fs :=
  o_callX hs hc hx ha hargs (rs := []) (rest := os) (List.Perm.refl _) hcs (fun e rs' cs' ⟨v, he, hp⟩ => by subst he; exact h v rs' cs' hp) (fun t ht => by cases ht; exact hd)
/-- It returns a value alone. -/
theorem o_callV {d : Nat} {x : Operand} {as : Array Operand} {ats : Array TypeId} {f : FuncId} {c1 c2 : Array Value} {vs args : List Value} {cs : List Frag} {v : Value}
    (hs : Spec P f args.toArray [] cs (Val v)) (hc : Callee P f) (hx : ev s x = some (.func (.func f) c1 c2)) (ha : as.toList.mapM (ev s) = some vs) (hargs : c1.toList ++ vs ++ c2.toList = args)
    (hcs : ∀ φ ∈ cs, φ ∈ fs) (h : K ds ((d, v) :: s) os fs) (hd : Nat.blt d n = true := by rfl) :
    OpS P ro n E Q ⟨some d, .call ⟨.value x, as, ats⟩, ty, p, af, g⟩ K ds s os fs :=
  o_callX hs hc hx ha hargs (rs := []) (rest := os) (List.Perm.refl _) hcs (fun e rs' cs' ⟨he, h1, h2⟩ => by subst he; subst h1; subst h2; exact h) (fun t ht => by cases ht; exact hd)
/-- It returns; the i-th of what is owned is handed over. -/
theorem o_call1 (i : Nat) {d : Nat} {r : Res} {x : Operand} {as : Array Operand} {ats : Array TypeId} {f : FuncId} {c1 c2 : Array Value} {vs args : List Value} {cs : List Frag} {post : Value → List Res → List Frag → Prop}
    (hs : Spec P f args.toArray [r] cs (RetP post)) (hr : os[i]? = some r) (hc : Callee P f) (hx : ev s x = some (.func (.func f) c1 c2)) (ha : as.toList.mapM (ev s) = some vs) (hargs : c1.toList ++ vs ++ c2.toList = args)
    (hcs : ∀ φ ∈ cs, φ ∈ fs) (h : ∀ v rs' cs', post v rs' cs' → K ds ((d, v) :: s) (rs' ++ os.eraseIdx i) (cs' ++ fs)) (hd : Nat.blt d n = true := by rfl) :
    OpS P ro n E Q ⟨some d, .call ⟨.value x, as, ats⟩, ty, p, af, g⟩ K ds s os fs :=
  o_callX hs hc hx ha hargs (rs := [r]) (rest := os.eraseIdx i) (perm_at hr) hcs (fun e rs' cs' ⟨v, he, hp⟩ => by subst he; exact h v rs' cs' hp) (fun t ht => by cases ht; exact hd)
/-- It panics. -/
theorem o_callP {x : Operand} {as : Array Operand} {ats : Array TypeId} {f : FuncId} {c1 c2 : Array Value} {vs args : List Value} {cs : List Frag} {post : List PanicEntry → List Res → List Frag → Prop}
    (hs : Spec P f args.toArray [] cs (PanP post)) (hc : Callee P f) (hx : ev s x = some (.func (.func f) c1 c2)) (ha : as.toList.mapM (ev s) = some vs) (hargs : c1.toList ++ vs ++ c2.toList = args)
    (hcs : ∀ φ ∈ cs, φ ∈ fs) (h : ∀ ch rs' cs', post ch rs' cs' → Q (.panic ch) ds [] (rs' ++ os) (cs' ++ fs)) (hd : ∀ t, dd = some t → Nat.blt t n = true) :
    OpS P ro n E Q ⟨dd, .call ⟨.value x, as, ats⟩, ty, p, af, g⟩ K ds s os fs :=
  o_callX hs hc hx ha hargs (rs := []) (rest := os) (List.Perm.refl _) hcs (fun e rs' cs' ⟨ch, he, hp⟩ => by subst he; exact h ch rs' cs' hp) hd
/-- What the callee reads is borrowed of what is owned. -/
theorem o_callB {x : Operand} {as : Array Operand} {ats : Array TypeId} {f : FuncId} {c1 c2 : Array Value} {vs args : List Value} {post : Value → List Res → Prop} {d : Nat}
    (hs : ∀ w, St E.w0 E.S E.F0 w os fs → ∃ cs, (∀ φ ∈ cs, Sub φ w) ∧ Spec P f args.toArray [] cs (RetP fun v rs' cs' => cs' = [] ∧ post v rs')) (hc : Callee P f) (hx : ev s x = some (.func (.func f) c1 c2)) (ha : as.toList.mapM (ev s) = some vs) (hargs : c1.toList ++ vs ++ c2.toList = args)
    (h : ∀ v rs', post v rs' → K ds ((d, v) :: s) (rs' ++ os) fs) (hd : Nat.blt d n = true := by rfl) :
    OpS P ro n E Q ⟨some d, .call ⟨.value x, as, ats⟩, ty, p, af, g⟩ K ds s os fs := fun a w r => by
  obtain ⟨cs, hsub, hspec⟩ := hs w r.st
  refine ⟨fun _ _ => trivial, ?_⟩
  rw [Oper.semAt_eq _ _ _ (by simp), run_callOp hx ha hargs hc _ _ fun x u hx => r.ag.eval hx, Oper.uponIn_enter]
  refine ⟨(fun h => by cases h), callsIn_FW ((hspec w ⟨by simp, hsub, List.Pairwise.nil, by simp⟩).mono fun e w' ⟨rs', cs', ⟨v, he, hcs', hp⟩, hk⟩ => ?_)⟩
  subst he
  subst hcs'
  have hk' : St w (foots []) [] w' rs' [] := ⟨hk.keep, hk.holds, by simp, hk.apart, fun r1 h1 b hb => ⟨by simp, (hk.away r1 h1 b hb).2⟩, by simp⟩
  have h3 := St.call (rs := []) (rest := os) (cs := []) (by simpa using r.st) (by simp) hk'
  exact ⟨ds, _, _, _, h v rs' hp, r.ag.put (by simpa [Nat.blt_eq] using hd) _, by simpa using h3⟩
theorem St.borrow {w0 w : World} {S : List Nat} {F0 : List Frag} (h : St w0 S F0 w os fs) {i : Nat} {v : Value} {e : TypeId} {sz : Nat} {ess : List (List Value)} (hr : os[i]? = some (.row v e sz ess)) : ∃ φ, Sub φ w ∧ Sl φ v sz ess :=
  ⟨_, Res.frag_sub w (.row v e sz ess), row_sl (h.holds _ (List.mem_of_getElem? hr)) (fun b hb => if_pos hb) (row_len (h.holds _ (List.mem_of_getElem? hr)))⟩
end
end Go.Proofs.Sep
