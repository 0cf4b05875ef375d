/- Deferred calls, recover. -/
import Derived.Test.YtpnhedlciamegaaDoorSepP
import Derived.RecoverIn
set_option linter.all false
set_option linter.unnecessarySimpa false
set_option linter.deprecated false
set_option linter.unusedVariables false
set_option linter.unusedSimpArgs false
namespace Go.Proofs.Sep
open Go Go.RowKit

/-- What recover yields in a deferred call over a frame of this mode, and the mode behind it. -/
def recovers : FrameMode → Value × FrameMode
  | .panicking ({ v, recovered := false, goexit := false } :: older) => (v, .panicking ({ v, recovered := true } :: older))
  | u => (.nilIface, u)
theorem recovers_spec (c₀ : Frame) (cs : List Frame) : recoverD (c₀ :: cs) = some ((recovers c₀.mode).1, { c₀ with mode := (recovers c₀.mode).2 } :: cs) ∨ recoverD (c₀ :: cs) = none ∧ (recovers c₀.mode).1 = .nilIface ∧ ({ c₀ with mode := (recovers c₀.mode).2 } :: cs) = c₀ :: cs := by
  obtain ⟨cf, ct, ctd, cd, cm, ck, cr⟩ := c₀
  cases cm with
  | run => exact .inr ⟨rfl, rfl, rfl⟩
  | returning => exact .inr ⟨rfl, rfl, rfl⟩
  | panicking ch =>
    cases ch with
    | nil => exact .inr ⟨rfl, rfl, rfl⟩
    | cons p older =>
      obtain ⟨pv, pr, pg⟩ := p
      cases pr with
      | true => exact .inr ⟨rfl, rfl, rfl⟩
      | false =>
        cases pg with
        | true => exact .inr ⟨rfl, rfl, rfl⟩
        | false => exact .inl rfl
/-- A function, entered as a deferred call over a frame of mode u. -/
def SpecD (P : Program) (f : FuncId) (args : Array Value) (u : FrameMode) (rs : List Res) (fs : List Frag) (post : Ending → FrameMode → List Res → List Frag → Prop) : Prop :=
  ∀ w, Pre w rs fs → CallsDIn (FW none) 0 P f args u w fun e u' w' => ∃ rs' fs', post e u' rs' fs' ∧ St w (foots rs) fs w' rs' fs'

section
variable {P : Program} {Q : Exit → Act → List Frame → World → Prop} {a : Act} {cs : List Frame} {w : World}
theorem wpSIn_regionR {id : Nat} {o : Oper} {rest : List Oper} {d : Nat} {v : Value} {cs' : List Frame} (hd : o.dst = some d) (hg : o.guard = none) (hrun : (execOp a.eval o).run P w = .ok .recover w) (hl : cs'.length = cs.length)
    (hrec : recoverD cs = some (v, cs') ∨ recoverD cs = none ∧ v = .nilIface ∧ cs' = cs)
    {Q1 : Exit → Act → World → Prop} (h : wpListIn (FW none) 0 P (o :: rest).toArray Q1 rest (a.put (some d) v) w) (hq1 : ∀ e a' w', Q1 e a' w' → Q e a' cs' w') : (Code.region id (o :: rest).toArray false).wpSIn (FW none) 0 P Q a cs w := by
  intro b k hb hro hF hroom
  have htail : wpOpsIn (FW none) 0 P (o :: rest).toArray Q1 (List.range' 1 rest.length) (a.put (some d) v) w := by
    rw [wpOpsIn_eq_wpListIn rest 1 (fun j => by simp [Nat.add_comm 1 j])]
    exact h
  obtain ⟨e, a', w', hq, harr⟩ := wp_opsIn _ _ _ htail b k cs' (hro.trans rfl) hF (hl ▸ hroom)
  have ho : (o :: rest).toArray[0]? = some o := by simp
  have hw : Region.wanted o (yielded (o :: rest).toArray a.tmps) = true := by simp [Region.wanted, hg]
  have er : List.range (o :: rest).toArray.size = 0 :: List.range' 1 rest.length := by simp [List.range_eq_range', List.range'_succ]
  have h0 : (lone (b.atR a (.inRegion (o :: rest).toArray (0 :: List.range' 1 rest.length) :: k)) cs w).fenced P (FW none) := fenced_oper hF hroom ho (fun _ _ => trivial)
  have hgo := stepGR_op (P := P) (b := b) (a := a) (k := k) (cs := cs) (w := w) (rest := List.range' 1 rest.length) ho hw
  rw [hro, Oper.semAt_none] at hgo
  have hfin : ∀ v, (b.atR a (.inRegion (o :: rest).toArray (0 :: List.range' 1 rest.length) :: k)).finish v = b.atR (a.put o.dst v) (.inRegion (o :: rest).toArray (List.range' 1 rest.length) :: k) := by
    intro v; rw [Frame.finish_atR, ho]; rfl
  have hk : (b.atR a (.inRegion (o :: rest).toArray (0 :: List.range' 1 rest.length) :: k)).kind = .deferred := hb
  have htr := tryRecover_deferred hk cs
  have s0 := stepR_region (P := P) (b := b) (a := a) (k := k) (cs := cs) (w := w) (ops := (o :: rest).toArray) (id := id)
  rw [er] at s0
  have s1 : step P (lone (b.atR a (.inRegion (o :: rest).toArray (0 :: List.range' 1 rest.length) :: k)) cs w) = .next (lone (b.atR (a.put (some d) v) (.inRegion (o :: rest).toArray (List.range' 1 rest.length) :: k)) cs' w) := by
    refine step_lone_go ?_
    rw [hgo, ← hd, ← hfin]
    simp only [Frame.atR, hro] at htr ⊢
    rcases hrec with hrec | ⟨hrec, rfl, rfl⟩
    · simp [stepG.apply, hrun, htr, hrec]
    · simp [stepG.apply, hrun, htr, hrec]
  exact ⟨e, a', cs', w', hl, hq1 _ _ _ hq, .of_steps (.one (fenced_calm hF hroom rfl) s0) (.of_steps (.one h0 s1) harr)⟩
end

/-- The end of a function that was deferred. -/
def RetQ0 (P : Program) (fn : Func) (n : Nat) (E : Env) (post : Ending → List Res → List Frag → Prop) : SQ := fun e ds s os fs => ds = [] ∧ RetQ P fn n E post e ds s os fs

theorem SpecD.body {P : Program} {f : FuncId} {fn : Func} {id : Nat} {o : Oper} {rest : List Oper} {c2 : Code} {args : List Value} {u : FrameMode} {rs : List Res} {fs : List Frag} {post : Ending → List Res → List Frag → Prop} {n d : Nat}
    (hf : P.funcs[f]? = some fn) (hb : fn.body = some (.seq (.region id (o :: rest).toArray false) c2)) (hn : fn.ntmps = n) (hsz : args.length ≤ n) (hdst : o.dst = some d) (hg : o.guard = none) (hdn : Nat.blt d n = true)
    (hrun : ∀ (ρ : Operand → Value) w, (execOp ρ o).run P w = .ok .recover w)
    (h : ∀ w0, (∀ b ∈ foots rs, b < w0.heap.size) → WL P none n ⟨w0, foots rs, fs⟩ (o :: rest).toArray (Then (W P none n ⟨w0, foots rs, fs⟩ c2 (RetQ0 P fn n ⟨w0, foots rs, fs⟩ post)) (RetQ0 P fn n ⟨w0, foots rs, fs⟩ post)) rest [] ((d, (recovers u).1) :: argFrom 0 args) rs fs) :
    SpecD P f args.toArray u rs fs fun e u' rs' fs' => u' = (recovers u).2 ∧ post e rs' fs' := fun w hp => by
  have hlt : ∀ b ∈ foots rs, b < w.heap.size := fun b hb => by
    obtain ⟨r, hr, e⟩ := mem_foots.1 hb
    exact Res.foot_lt (hp.holds r hr) e
  have hag : Ag n [] { tmps := args.toArray ++ Array.replicate (fn.ntmps - args.toArray.size) undef, defers := [] } (argFrom 0 args) := by
    refine ⟨by simp; omega, rfl, fun t v hv => ?_⟩
    obtain ⟨_, h2⟩ := argFrom_get args 0 t v hv
    rw [Nat.sub_zero] at h2
    have ht := (List.getElem?_eq_some_iff.1 h2).1
    simp only
    rw [Array.getElem?_append_left (by simpa using ht)]
    simpa using h2
  refine callsDIn_of_wpSIn hf hb trivial fun c₀ cs hu => ?_
  have hw := h w hlt _ w ⟨hag.put (by simpa [Nat.blt_eq] using hdn) (recovers u).1, hp.st⟩
  have hrec : recoverD (c₀ :: cs) = some ((recovers u).1, { c₀ with mode := (recovers u).2 } :: cs) ∨ recoverD (c₀ :: cs) = none ∧ (recovers u).1 = .nilIface ∧ ({ c₀ with mode := (recovers u).2 } :: cs) = c₀ :: cs := by
    subst hu
    exact recovers_spec c₀ cs
  have key : ∀ (e : Exit) (a' : Act) (w' : World), lift n ⟨w, foots rs, fs⟩ (RetQ0 P fn n ⟨w, foots rs, fs⟩ post) e a' w' → bodyPostS P fn c₀ cs (fun e u' w' => ∃ rs' fs', (u' = (recovers u).2 ∧ post e rs' fs') ∧ St w (foots rs) fs w' rs' fs') e a' ({ c₀ with mode := (recovers u).2 } :: cs) w' := fun e a' w' hq => by
    obtain ⟨ds, s, os, fs', ⟨hds, hq⟩, hr, _⟩ := hq
    subst hds
    have hd0 : a'.defers = [] := hr.ag.defers
    have hret : (∃ D rest, [] = marks D ∧ os.Perm (D.map dblk ++ rest) ∧ ∃ v os' fs'', (∀ a w', Rep n ⟨w, foots rs, fs⟩ [] s rest fs' a w' → (results fn a.tmps).run P w' = .ok v w') ∧ os'.Sublist rest ∧ (∀ φ ∈ fs'', φ ∈ fs') ∧ post (.returned v) os' fs'') →
        a'.defers = [] ∧ ∃ u', ({ c₀ with mode := (recovers u).2 } :: cs) = { c₀ with mode := u' } :: cs ∧ ∃ v, (results fn a'.tmps).run P w' = .ok v w' ∧ ∃ rs' fs', (u' = (recovers u).2 ∧ post (.returned v) rs' fs') ∧ St w (foots rs) fs w' rs' fs' := fun ⟨D, rest, h0, h1, v, os', fs'', h2, h3, h4, h5⟩ => by
      obtain rfl := marks_nil h0
      have hst := hr.st.perm h1
      exact ⟨hd0, _, rfl, v, h2 a' w' ⟨hr.ag, hst⟩, os', fs'', ⟨rfl, h5⟩, hst.drop h3 h4⟩
    cases e with
    | normal => exact hret hq
    | ret => exact hret hq
    | panic ch =>
      obtain ⟨D, rest, h0, h1, os', fs'', h3, h4, h5⟩ := hq
      obtain rfl := marks_nil h0
      exact ⟨hd0, _, rfl, os', fs'', ⟨rfl, h5⟩, (hr.st.perm h1).drop h3 h4⟩
    | exit id => exact hq.elim
    | goto l => exact hq.elim
    | outgrown => exact hq.elim
  refine wpSIn_seq (wpSIn_regionR (v := (recovers u).1) (cs' := { c₀ with mode := (recovers u).2 } :: cs) hdst hg (hrun _ _) rfl hrec hw fun e a' w' hq => ?_)
  cases e with
  | normal =>
    obtain ⟨ds, s, os, fs', hq, hr, _⟩ := hq
    exact wpSIn_of_wpIn rfl (wpIn_mono (hq a' w' hr) fun e a2 w2 hq2 => key e a2 w2 hq2)
  | _ => exact key _ a' w' hq
end Go.Proofs.Sep
namespace Go.Proofs.Sep
open Go Go.RowKit
section
variable {P : Program} {n : Nat} {E : Env} {Q : SQ} {K : SK} {ds : List Deferred} {s : Sto} {os : List Res} {fs : List Frag}
variable {ty : TypeId} {p : String} {af : Array Edge} {g : Option (Nat × Bool)}
/-- A defer statement. -/
theorem o_defer {x : Operand} {as : Array Operand} {ats : Array TypeId} {f : FuncId} {c1 c2 : Array Value} {vs : List Value} (hx : ev s x = some (.func (.func f) c1 c2)) (ha : as.toList.mapM (ev s) = some vs)
    (hk : K ({ target := .fn (.func f) c2, args := (c1.toList ++ vs).toArray } :: ds) s os fs) : OpS P none n E Q ⟨none, .defer ⟨.value x, as, ats⟩, ty, p, af, g⟩ K ds s os fs := fun a w r => by
  have e1 : as.map a.eval = vs.toArray := by rw [← mapM_ev (fun x u hx => r.ag.eval hx) _ _ ha, ← Array.toList_map, Array.toArray_toList]
  have e2 : c1 ++ vs.toArray = (c1.toList ++ vs).toArray := by apply Array.ext'; simp
  have hrun : (execOp a.eval ⟨none, .defer ⟨.value x, as, ats⟩, ty, p, af, g⟩).run P w = .ok (.defer { target := .fn (.func f) c2, args := (c1.toList ++ vs).toArray }) w := by
    simp [execOp, resolve, r.ag.eval hx, Deferred.ofValue, e1, e2]
  refine ⟨fun _ _ => trivial, ?_⟩
  rw [show (FW none).round = none from rfl, Oper.semAt_none, hrun]
  exact ⟨_, s, os, fs, hk, ⟨r.ag.size, by rw [← r.ag.defers]; rfl, r.ag.vals⟩, r.st⟩
end

/-- A frame on its way out. -/
def Leave (P : Program) (fn : Func) (n : Nat) (E : Env) (post : Ending → List Res → List Frag → Prop) (u : FrameMode) : SK := fun ds s os fs =>
  ∀ a w, Rep n E ds s os fs a w → LeavesInM (FW none) 0 P fn a.tmps (fun e w' => ∃ rs' fs', post e rs' fs' ∧ St E.w0 E.S E.F0 w' rs' fs') ds u w
def RetL (P : Program) (fn : Func) (n : Nat) (E : Env) (post : Ending → List Res → List Frag → Prop) : SQ
  | .normal | .ret => Leave P fn n E post .returning
  | .panic ch => Leave P fn n E post (.panicking ch)
  | _ => fun _ _ _ _ => False
theorem Spec.bodyL {P : Program} {f : FuncId} {fn : Func} {c : Code} {args : List Value} {rs : List Res} {fs : List Frag} {post : Ending → List Res → List Frag → Prop} {n : Nat}
    (hf : P.funcs[f]? = some fn) (hb : fn.body = some c) (hn : fn.ntmps = n) (hsz : args.length ≤ n)
    (h : ∀ w0, (∀ b ∈ foots rs, b < w0.heap.size) → W P none n ⟨w0, foots rs, fs⟩ c (RetL P fn n ⟨w0, foots rs, fs⟩ post) [] (argFrom 0 args) rs fs) : Spec P f args.toArray rs fs post := fun w hp => by
  have hlt : ∀ b ∈ foots rs, b < w.heap.size := fun b hb => by
    obtain ⟨r, hr, e⟩ := mem_foots.1 hb
    exact Res.foot_lt (hp.holds r hr) e
  have hag : Ag n [] { tmps := args.toArray ++ Array.replicate (fn.ntmps - args.toArray.size) undef, defers := [] } (argFrom 0 args) := by
    refine ⟨by simp; omega, rfl, fun t v hv => ?_⟩
    obtain ⟨_, h2⟩ := argFrom_get args 0 t v hv
    rw [Nat.sub_zero] at h2
    have ht := (List.getElem?_eq_some_iff.1 h2).1
    simp only
    rw [Array.getElem?_append_left (by simpa using ht)]
    simpa using h2
  have hw := h w hlt _ w ⟨hag, hp.st⟩
  refine calls_FW (ro := none) (k := 0) (callsIn_of_wp_marks hf hb trivial (wpIn_mono hw fun e a' w' hq => ?_))
  obtain ⟨ds, s, os, fs', hq, hr, _⟩ := hq
  have hd := hr.ag.defers
  cases e with
  | normal => show LeavesInM _ _ _ _ _ _ _ _ _; rw [hd]; exact hq a' w' hr
  | ret => show LeavesInM _ _ _ _ _ _ _ _ _; rw [hd]; exact hq a' w' hr
  | panic ch => show LeavesInM _ _ _ _ _ _ _ _ _; rw [hd]; exact hq a' w' hr
  | exit id => exact hq.elim
  | goto l => exact hq.elim
  | outgrown => exact hq.elim
section
variable {P : Program} {fn : Func} {n : Nat} {E : Env} {post : Ending → List Res → List Frag → Prop} {ds : List Deferred} {s : Sto} {os : List Res} {fs : List Frag} {u : FrameMode}
theorem Leave.ret (h : RetQ P fn n E post .ret [] s os fs) : Leave P fn n E post .returning [] s os fs := fun a w r => by
  obtain ⟨D, rest, h0, h1, v, os', fs', h2, h3, h4, h5⟩ := h
  obtain rfl := marks_nil h0
  have hst := r.st.perm h1
  exact ⟨v, h2 a w ⟨r.ag, hst⟩, os', fs', h5, hst.drop h3 h4⟩
theorem Leave.pan {ch : List PanicEntry} (h : RetQ P fn n E post (.panic ch) [] s os fs) : Leave P fn n E post (.panicking ch) [] s os fs := fun a w r => by
  obtain ⟨D, rest, h0, h1, os', fs', h3, h4, h5⟩ := h
  obtain rfl := marks_nil h0
  exact ⟨os', fs', h5, (r.st.perm h1).drop h3 h4⟩
/-- The next deferred call. -/
theorem Leave.call {f : FuncId} {av c2 args : Array Value} {rsd rest : List Res} {csd : List Frag} {postd : Ending → FrameMode → List Res → List Frag → Prop} (hs : SpecD P f args u rsd csd postd) (ha : av ++ c2 = args) (hc : Callee P f) (hu : u ≠ .run) (hp : os.Perm (rsd ++ rest)) (hcs : ∀ φ ∈ csd, φ ∈ fs)
    (h : ∀ e u' rs' cs', postd e u' rs' cs' → match e with
      | .returned _ => Leave P fn n E post (settle u') ds s (rs' ++ rest) (cs' ++ fs)
      | .panicked ch => Leave P fn n E post (raised u' ch) ds s (rs' ++ rest) (cs' ++ fs)
      | .outgrown => False) : Leave P fn n E post u ({ target := .fn (.func f) c2, args := av } :: ds) s os fs := fun a w r => by
  subst ha
  have hst := r.st.perm hp
  refine ⟨hu, .inr ⟨(fun h => by cases h), .func f, c2, f, av ++ c2, rfl, ?_, fun _ _ => trivial, (hs w (hst.pre hcs)).mono fun e u' w' ⟨rs', cs', hpost, hk⟩ => ?_⟩⟩
  · simp only [invoke]
    exact run_callFunc hc _ _
  · have h2 := h e u' rs' cs' hpost
    have h3 := hst.call hcs hk
    cases e with
    | returned v => exact h2 { a with defers := ds } w' ⟨⟨r.ag.size, rfl, r.ag.vals⟩, h3⟩
    | panicked ch => exact h2 { a with defers := ds } w' ⟨⟨r.ag.size, rfl, r.ag.vals⟩, h3⟩
    | outgrown => exact h2.elim
/-! ### two results in cells -/
theorem run_loadResS {t : TypeId} {v : Value} {cs : List Value} (ht : scalar P t = true) {w : World} {b : Nat} {te : TypeId} (h : (cel b te (v :: cs)).holds w) : (loadVar t ⟨b, 0, none⟩).run P w = .ok v w := by
  have := run_load_scalar (P := P) ht (w := w) (b := b) (off := 0) (u := v) (cel_cells h rfl)
  simpa [Instr.loadAt, Instr.sureAddr] using this
theorem retCC {t q : Tmp} {rt rq : TypeId} {b c : Nat} {v x : Value} (hr : fn.results = #[.cell t rt, .cell q rq]) (ht : Sto.get s t = some (.pointer (some ⟨b, 0, none⟩))) (hq : Sto.get s q = some (.pointer (some ⟨c, 0, none⟩)))
    (h1 : ∀ w, (∀ r ∈ os, r.holds w) → (loadVar rt ⟨b, 0, none⟩).run P w = .ok v w) (h2 : ∀ w, (∀ r ∈ os, r.holds w) → (loadVar rq ⟨c, 0, none⟩).run P w = .ok x w) (os' : List Res) (fs' : List Frag)
    (hp : post (.returned (.tuple #[v, x])) os' fs') (hos : os'.Sublist os) (hf : ∀ φ ∈ fs', φ ∈ fs) : RetQ P fn n E post .ret [] s os fs :=
  ⟨[], os, rfl, List.Perm.refl _, .tuple #[v, x], os', fs', fun a w r => by
    simp [results, hr, Array.getD_eq_getD_getElem?, r.ag.vals t _ ht, r.ag.vals q _ hq, asAddr, h1 w r.st.holds, h2 w r.st.holds], hos, hf, hp⟩
end
end Go.Proofs.Sep
