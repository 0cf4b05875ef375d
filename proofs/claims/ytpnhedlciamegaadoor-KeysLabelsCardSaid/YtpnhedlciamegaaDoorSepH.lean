/- A range over a function: the statement, the rounds, yield. -/
import Derived.Test.YtpnhedlciamegaaDoorSepG
set_option linter.all false
set_option linter.unnecessarySimpa false
set_option linter.deprecated false
set_option linter.unusedVariables false
set_option linter.unusedSimpArgs false
namespace Go.Proofs.Sep
open Go Go.RowKit

/-- yield, called with these values: one round. -/
def YSpec (P : Program) (l : Nat) (args : Array Value) (rs : List Res) (fs : List Frag) (post : Ending → List Res → List Frag → Prop) : Prop :=
  ∀ w, Pre w rs fs → ∃ f tmps a b, (Instr.yield l args).run P w = .ok (.round l f tmps a b) w ∧ RoundIn (FW none) 0 P l f tmps a b w fun e w' => ∃ rs' fs', post e rs' fs' ∧ St w (foots rs) fs w' rs' fs'
theorem YSpec.mono {P : Program} {l : Nat} {args : Array Value} {rs : List Res} {fs : List Frag} {post post' : Ending → List Res → List Frag → Prop} (h : YSpec P l args rs fs post) (hp : ∀ e rs' fs', post e rs' fs' → post' e rs' fs') : YSpec P l args rs fs post' :=
  fun w hw => let ⟨f, tmps, a, b, h1, h2⟩ := h w hw; ⟨f, tmps, a, b, h1, h2.mono fun e w' ⟨rs', fs', h3, h4⟩ => ⟨rs', fs', hp _ _ _ h3, h4⟩⟩

def zipS : List Tmp → List Value → Sto → Sto
  | p :: ps, v :: vs, s => zipS ps vs ((p, v) :: s)
  | _, _, s => s
theorem ag_zip {n : Nat} : ∀ (ps : List Tmp) (vs : List Value) (tmps : Array Value) (s : Sto), Ag n [] { tmps, defers := [] } s → (∀ p ∈ ps, p < n) →
    Ag n [] { tmps := (ps.zip vs).foldl (fun tmps (t, a) => tmps.setIfInBounds t a) tmps, defers := [] } (zipS ps vs s)
  | [], _, _, _, h, _ => by simpa [zipS] using h
  | p :: ps, [], _, _, h, _ => by simpa [zipS] using h
  | p :: ps, v :: vs, tmps, s, h, hp => by
    have h1 := h.put (d := p) (hp p (by simp)) v
    have h2 := ag_zip ps vs _ _ h1 fun q hq => hp q (by simp [hq])
    simpa [zipS, Act.put] using h2

section
variable {P : Program} {n : Nat} {E : Env} {Q : SQ} {K : SK} {ds : List Deferred} {s : Sto} {os : List Res} {fs : List Frag}

/-- How a round ends. -/
def RoundQ (l : Nat) (r : Loop) (post : Ending → List Res → List Frag → Prop) : SQ
  | .normal => fun ds s os fs => ∃ os' rest fs', os.Perm (.blk l (.loop { r with state := .busy }) :: (os' ++ rest)) ∧ (∀ φ ∈ fs', φ ∈ fs) ∧ post (.returned (.bool true)) (.blk l (.loop { r with state := .ready, pending := none }) :: os') fs'
  | .ret => fun ds s os fs => ∃ os' rest fs', os.Perm (.blk l (.loop { r with state := .busy }) :: (os' ++ rest)) ∧ (∀ φ ∈ fs', φ ∈ fs) ∧ post (.returned (.bool false)) (.blk l (.loop { r with state := .done, pending := some .ret }) :: os') fs'
  | .exit id => fun ds s os fs => ∃ os' rest fs', os.Perm (.blk l (.loop { r with state := .busy }) :: (os' ++ rest)) ∧ (∀ φ ∈ fs', φ ∈ fs) ∧ post (.returned (.bool false)) (.blk l (.loop { r with state := .done, pending := some (.exit id) }) :: os') fs'
  | _ => fun _ _ _ _ => False

theorem St.putRec {w0 w : World} {S : List Nat} {F0 : List Frag} {l : Nat} {r : Loop} {os : List Res} {fs : List Frag} (h : St w0 S F0 w (.blk l (.loop r) :: os) fs) (r' : Loop) : St w0 S F0 (w.putObj l (.loop r')) (.blk l (.loop r') :: os) fs := by
  have hb : w.heap[l]? = some (.loop r) := h.holds _ List.mem_cons_self
  exact h.turn (keep_putObj w l _) (by simp [Res.foot]) (World.putObj_heap_same (Array.getElem?_eq_some_iff.1 hb).1) (fun b' hb' => .inl hb')

/-- One round, out of its body. -/
theorem YSpec.round {l : Nat} {r : Loop} {vals : List Value} {rs : List Res} {cs : List Frag} {post : Ending → List Res → List Frag → Prop} (hr : r.state = .ready) (hlen : vals.length = r.params.size) (hag : Ag n [] { tmps := r.tmps, defers := [] } s) (hps : ∀ p ∈ r.params.toList, p < n)
    (h : ∀ w0, (∀ b ∈ foots (.blk l (.loop r) :: rs), b < w0.heap.size) → W P (some l) n ⟨w0, foots (.blk l (.loop r) :: rs), cs⟩ r.assign
      (Then (fun ds s os fs => ∃ os', os.Perm (.blk l (.loop r) :: os') ∧ W P (some l) n ⟨w0, foots (.blk l (.loop r) :: rs), cs⟩ r.body (RoundQ l r post) ds s (.blk l (.loop { r with state := .busy }) :: os') fs) (fun _ _ _ _ _ => False))
      [] (zipS r.params.toList vals s) (.blk l (.loop r) :: rs) cs) : YSpec P l vals.toArray (.blk l (.loop r) :: rs) cs post := fun w hp => by
  have hb : w.heap[l]? = some (.loop r) := hp.holds _ List.mem_cons_self
  have hlt : ∀ b ∈ foots (.blk l (.loop r) :: rs), b < w.heap.size := fun b hb => by
    obtain ⟨q, hq, e⟩ := mem_foots.1 hb
    exact Res.foot_lt (hp.holds q hq) e
  refine ⟨_, _, _, _, run_yield hb (by simpa using hlen), ?_⟩
  have hag2 := ag_zip r.params.toList vals r.tmps s hag hps
  have ez : (r.params.zip vals.toArray).foldl (fun tmps (t, a) => tmps.setIfInBounds t a) r.tmps = (r.params.toList.zip vals).foldl (fun tmps (t, a) => tmps.setIfInBounds t a) r.tmps := by
    rw [← Array.foldl_toList]
    simp
  refine roundIn_of_wpIn (F := FW none) trivial ?_
  have hw := h w hlt _ w ⟨hag2, hp.st⟩
  rw [ez]
  refine wpIn_mono hw fun e a w1 hq => ?_
  obtain ⟨ds, s1, os, fs1, hq, hrep, _⟩ := hq
  cases e with
  | normal =>
    obtain ⟨os', hperm, hbody⟩ := hq
    have hst := hrep.st.perm hperm
    have hb1 : w1.heap[l]? = some (.loop r) := hst.holds _ List.mem_cons_self
    refine ⟨_, run_beginRound hb1 hr, ?_⟩
    refine wpIn_mono (hbody a _ ⟨hrep.ag, hst.putRec _⟩) fun e a2 w2 hq2 => ?_
    obtain ⟨ds2, s2, os2, fs2, hq2, hrep2, _⟩ := hq2
    have fin : ∀ (j : Option Code), (∃ os' rest fs', os2.Perm (.blk l (.loop { r with state := .busy }) :: (os' ++ rest)) ∧ (∀ φ ∈ fs', φ ∈ fs2) ∧ post (.returned (.bool j.isNone)) (.blk l (.loop { r with state := if j.isNone then .ready else .done, pending := j }) :: os') fs') →
        ∃ v w', (Instr.endRound l j).run P w2 = .ok v w' ∧ ∃ rs' fs', post (.returned v) rs' fs' ∧ St w (foots (.blk l (.loop r) :: rs)) cs w' rs' fs' := fun j ⟨os', rest, fs', h1, h2, h3⟩ => by
      have hst2 := hrep2.st.perm h1
      have hb2 : w2.heap[l]? = some (.loop { r with state := .busy }) := hst2.holds _ List.mem_cons_self
      exact ⟨_, _, run_endRound j hb2, _, _, h3, (hst2.putRec { r with state := if j.isNone then .ready else .done, pending := j }).drop ((List.sublist_append_left os' rest).cons_cons _) h2⟩
    cases e with
    | normal => exact fin none hq2
    | ret => exact fin (some .ret) hq2
    | exit id => exact fin (some (.exit id)) hq2
    | goto t => exact hq2.elim
    | panic ch => exact hq2.elim
    | outgrown => exact hq2.elim
  | exit id => exact hq.elim
  | goto t => exact hq.elim
  | ret => exact hq.elim
  | panic ch => exact hq.elim
  | outgrown => exact hq.elim

/-- The statement. -/
theorem W.rangeFunc {g : Operand} {ps : Array Tmp} {assign body : Code} {f : FuncId} {c1 c2 : Array Value} (hg : ev s g = some (.func (.func f) c1 c2)) (hc : Callee P f)
    (h : ∀ l d fn tmps, Ag n [] { tmps, defers := [] } s → l ∉ E.S → d ∉ E.S → ∃ rs rest cs post, os.Perm (rs ++ rest) ∧ (∀ φ ∈ cs, φ ∈ fs) ∧
      Spec P f (c1.toList ++ [Value.func (.yield l) #[] #[]] ++ c2.toList).toArray (.blk l (.loop { state := .ready, pending := none, fn, tmps, params := ps, assign, body, defers := d }) :: rs) cs post ∧
      ∀ e rs' cs', post e rs' cs' → match e with
        | .returned _ => ∃ r rs'', rs'.Perm (.blk l (.loop r) :: rs'') ∧ r.state ≠ .busy ∧ (match r.pending with
          | none => Q .normal (marks [d] ++ ds) s (dblk d :: (rs'' ++ rest)) (cs' ++ fs)
          | some c => W P none n E c Q (marks [d] ++ ds) s (dblk d :: (rs'' ++ rest)) (cs' ++ fs))
        | .panicked ch => Q (.panic ch) (marks [d] ++ ds) [] (dblk d :: (rs' ++ rest)) (cs' ++ fs)
        | .outgrown => False) (hS : ∀ b ∈ E.S, b < E.w0.heap.size := by first | assumption | simp [foots]) : W P none n E (.rangeFunc g ps assign body) Q ds s os fs := fun a w r => by
  refine wpIn_rangeFunc fun fn _ => ?_
  have hE : E.w0.heap.size ≤ w.heap.size := r.st.keep.size
  obtain ⟨rs, rest, cs, post, hp, hcs, hspec, hk⟩ := h (w.heap.size + 1) w.heap.size fn a.tmps ⟨r.ag.size, rfl, r.ag.vals⟩ (fun hm => by have := hS _ hm; omega) (fun hm => by have := hS _ hm; omega)
  have hev := r.ag.eval hg
  have e2 : (c1 ++ #[Value.func (.yield (w.heap.size + 1)) #[] #[]] ++ c2 : Array Value) = (c1.toList ++ [Value.func (.yield (w.heap.size + 1)) #[] #[]] ++ c2.toList).toArray := by apply Array.ext'; simp
  let rr : Loop := { state := .ready, pending := none, fn, tmps := a.tmps, params := ps, assign, body, defers := w.heap.size }
  have hst1 : St E.w0 E.S E.F0 (w.alloc (.deferred (some []))) (dblk w.heap.size :: os) fs := r.st.alloc _
  have hst2 := hst1.alloc (.loop rr)
  rw [World.size_alloc] at hst2
  have hst3 : St E.w0 E.S E.F0 ((w.alloc (.deferred (some []))).alloc (.loop rr)) ((.blk (w.heap.size + 1) (.loop rr) :: rs) ++ (dblk w.heap.size :: rest)) fs := by
    refine hst2.perm (List.Perm.cons _ ?_)
    exact (hp.cons _).trans List.perm_middle.symm
  let W2 : World := (w.alloc (.deferred (some []))).alloc (.loop rr)
  refine ⟨w.heap.size + 1, marks [w.heap.size], W2, { target := .fn (.func f) c2, args := c1 ++ #[.func (.yield (w.heap.size + 1)) #[] #[]] }, W2, f, c1 ++ #[.func (.yield (w.heap.size + 1)) #[] #[]] ++ c2, W2, run_enterLoop_outer fn a.tmps ps assign body, ?_, fun _ _ => trivial, ?_, (fun h => by cases h), ?_⟩
  · show (resolve a.eval (rangeCall g (w.heap.size + 1)) 0).run P W2 = .ok { target := .fn (.func f) c2, args := c1 ++ #[Value.func (.yield (w.heap.size + 1)) #[] #[]] } W2
    have hev2 : a.eval (.const (.func (.yield (w.heap.size + 1)) #[] #[])) = Value.func (.yield (w.heap.size + 1)) #[] #[] := rfl
    simp [resolve, hev, hev2, Deferred.ofValue]
  · show (invoke (.fn (.func f) c2) (c1 ++ #[Value.func (.yield (w.heap.size + 1)) #[] #[]])).run P W2 = .ok _ W2
    simp only [invoke]
    exact run_callFunc hc _ _
  rw [e2]
  refine callsIn_FW ((hspec _ (hst3.pre hcs)).mono fun e w' ⟨rs', cs', hpost, hkk⟩ => ?_)
  have h3 := hst3.call hcs hkk
  have h2 := hk e rs' cs' hpost
  have hds : marks [w.heap.size] ++ a.defers = marks [w.heap.size] ++ ds := by rw [r.ag.defers]
  cases e with
  | returned v =>
    obtain ⟨r', rs'', hperm, hbusy, hh⟩ := h2
    have h4 : St E.w0 E.S E.F0 w' (.blk (w.heap.size + 1) (.loop r') :: (rs'' ++ (dblk w.heap.size :: rest))) (cs' ++ fs) := h3.perm ((hperm.append_right _).trans (by simp))
    have hb : w'.heap[w.heap.size + 1]? = some (.loop r') := h4.holds _ List.mem_cons_self
    have h5 := ((h4.putRec { r' with state := .exhausted }).drop (List.sublist_cons_self _ _) fun φ hφ => hφ).perm (os' := dblk w.heap.size :: (rs'' ++ rest)) List.perm_middle
    refine ⟨_, _, run_endLoop hb hbusy, ?_⟩
    have hrep : Rep n E (marks [w.heap.size] ++ ds) s (dblk w.heap.size :: (rs'' ++ rest)) (cs' ++ fs) { a with defers := marks [w.heap.size] ++ a.defers } (w'.putObj (w.heap.size + 1) (.loop { r' with state := .exhausted })) :=
      ⟨⟨r.ag.size, hds, r.ag.vals⟩, h5⟩
    cases hpend : r'.pending with
    | none => rw [hpend] at hh hrep; exact ⟨_, _, _, _, hh, hrep, fun ch h => by cases h⟩
    | some c => rw [hpend] at hh hrep; exact hh _ _ hrep
  | panicked ch =>
    refine ⟨_, [], _, _, h2, ⟨⟨r.ag.size, hds, fun t v hv => by simp [Sto.get] at hv⟩, h3.perm (List.perm_middle)⟩, fun _ _ => rfl⟩
  | outgrown => exact h2.elim

/-- A call of yield. -/
theorem o_yield {dd : Option Nat} {x : Operand} {as : Array Operand} {ats : Array TypeId} {ty : TypeId} {p : String} {af : Array Edge} {gd : Option (Nat × Bool)} {l : Nat} {vs : List Value} {rs rest : List Res} {cs : List Frag} {post : Ending → List Res → List Frag → Prop}
    (hs : YSpec P l vs.toArray rs cs post) (hx : ev s x = some (.func (.yield l) #[] #[])) (ha : as.toList.mapM (ev s) = some vs) (hp : os.Perm (rs ++ rest)) (hcs : ∀ φ ∈ cs, φ ∈ fs)
    (h : ∀ e rs' cs', post e rs' cs' → match e with
      | .returned v => K ds (putS dd v s) (rs' ++ rest) (cs' ++ fs)
      | .panicked ch => Q (.panic ch) ds [] (rs' ++ rest) (cs' ++ fs)
      | .outgrown => False) (hd : ∀ t, dd = some t → Nat.blt t n = true) : OpS P none n E Q ⟨dd, .call ⟨.value x, as, ats⟩, ty, p, af, gd⟩ K ds s os fs := fun a w r => by
  have hst := r.st.perm hp
  obtain ⟨f, tmps, aa, bb, hrun, hround⟩ := hs w (hst.pre hcs)
  have e1 : as.map a.eval = vs.toArray := by rw [← mapM_ev (fun x u hx => r.ag.eval hx) _ _ ha, ← Array.toList_map, Array.toArray_toList]
  refine ⟨fun _ _ => trivial, ?_⟩
  have hex : (execOp a.eval ⟨dd, .call ⟨.value x, as, ats⟩, ty, p, af, gd⟩).run P w = .ok (.round l f tmps aa bb) w := by
    simp [execOp, resolve, r.ag.eval hx, Deferred.ofValue, invoke, e1, Sem.run_bind, hrun]
  rw [Oper.semAt_eq _ _ _ (by simp), hex, Oper.uponIn_round]
  refine ⟨(fun h => by cases h), hround.mono fun e w' ⟨rs', cs', hpost, hk⟩ => ?_⟩
  have h2 := h e rs' cs' hpost
  have h3 := hst.call hcs hk
  cases e with
  | returned v =>
    cases dd with
    | none => exact ⟨ds, _, _, _, h2, r.ag, h3⟩
    | some t => exact ⟨ds, _, _, _, h2, r.ag.put (by simpa [Nat.blt_eq] using hd t rfl) _, h3⟩
  | panicked ch => exact ⟨ds, [], _, _, h2, ⟨r.ag.sub trivial, h3⟩, fun _ _ => rfl⟩
  | outgrown => exact h2.elim
end
end Go.Proofs.Sep
