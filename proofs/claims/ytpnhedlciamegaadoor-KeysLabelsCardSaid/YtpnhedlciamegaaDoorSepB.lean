/- The rules of code and of single operations over the symbolic state. -/
import Derived.Test.YtpnhedlciamegaaDoorSepA
set_option linter.all false
set_option linter.unnecessarySimpa false
set_option linter.deprecated false
set_option linter.unusedVariables false
set_option linter.unusedSimpArgs false
namespace Go.Proofs.Sep
open Go Go.RowKit

def FW (ro : Option Nat) : Fence := { fn := fun _ => True, depth := none, alive := false, round := ro }
theorem callsIn_FW {ro : Option Nat} {k : Nat} {P : Program} {f : FuncId} {args : Array Value} {w : World} {R : Ending → World → Prop}
    (h : Calls P f args w R) : CallsIn (FW ro) k P f args w R := (callsIn_wide (n := k)).2 h
theorem calls_FW {ro : Option Nat} {k : Nat} {P : Program} {f : FuncId} {args : Array Value} {w : World} {R : Ending → World → Prop}
    (h : CallsIn (FW ro) k P f args w R) : Calls P f args w R := (callsIn_wide (n := k)).1 h

/-- A result's slot, if there is one. -/
def putS (d : Option Nat) (v : Value) (s : Sto) : Sto := match d with
  | some t => (t, v) :: s
  | none => s
structure Env where
  w0 : World
  S : List Nat
  F0 : List Frag
structure Rep (n : Nat) (E : Env) (ds : List Deferred) (s : Sto) (os : List Res) (fs : List Frag) (a : Act) (w : World) : Prop where
  ag : Ag n ds a s
  st : St E.w0 E.S E.F0 w os fs
abbrev SQ := Exit → List Deferred → Sto → List Res → List Frag → Prop
abbrev SK := List Deferred → Sto → List Res → List Frag → Prop
def lift (n : Nat) (E : Env) (Q : SQ) : Exit → Act → World → Prop := fun e a w => ∃ ds s os fs, Q e ds s os fs ∧ Rep n E ds s os fs a w ∧ ∀ ch, e = .panic ch → s = []
def liftK (n : Nat) (E : Env) (K : SK) : Act → World → Prop := fun a w => ∃ ds s os fs, K ds s os fs ∧ Rep n E ds s os fs a w

def W (P : Program) (ro : Option Nat) (n : Nat) (E : Env) (c : Code) (Q : SQ) : SK := fun ds s os fs =>
  ∀ a w, Rep n E ds s os fs a w → c.wpIn (FW ro) 0 P (lift n E Q) a w
def OpS (P : Program) (ro : Option Nat) (n : Nat) (E : Env) (Q : SQ) (o : Oper) (K : SK) : SK := fun ds s os fs =>
  ∀ a w, Rep n E ds s os fs a w → o.wpIn (FW ro) 0 P a w (liftK n E K) (lift n E Q)
def WL (P : Program) (ro : Option Nat) (n : Nat) (E : Env) (ops : Array Oper) (Q : SQ) (l : List Oper) : SK := fun ds s os fs =>
  ∀ a w, Rep n E ds s os fs a w → wpListIn (FW ro) 0 P ops (lift n E Q) l a w

def Then (K : SK) (Q : SQ) : SQ
  | .normal => K
  | e => Q e
def InBlk (id : Nat) (Q : SQ) : SQ
  | .exit id' => bif Nat.beq id' id then Q .normal else Q (.exit id')
  | e => Q e

section
variable {P : Program} {ro : Option Nat} {n : Nat} {E : Env} {Q : SQ} {ds : List Deferred} {s : Sto} {os : List Res} {fs : List Frag}

theorem W.seq {x y : Code} (h : W P ro n E x (Then (W P ro n E y Q) Q) ds s os fs) : W P ro n E (x.seq y) Q ds s os fs := fun a w r =>
  wpIn_seq (wpIn_mono (h a w r) fun e a w hq => by
    obtain ⟨ds, s, os, fs, hq, hr, hp⟩ := hq
    cases e with
    | normal => exact hq a w hr
    | _ => exact ⟨ds, s, os, fs, hq, hr, hp⟩)
theorem W.block {id : Nat} {c : Code} (h : W P ro n E c (InBlk id Q) ds s os fs) : W P ro n E (.block id c) Q ds s os fs := fun a w r =>
  wpIn_block (wpIn_mono (h a w r) fun e a w hq => by
    obtain ⟨ds, s, os, fs, hq, hr, hp⟩ := hq
    cases e with
    | exit id' =>
      simp only [InBlk] at hq
      by_cases he : id' = id
      · subst he
        have hb : Nat.beq id' id' = true := by simp
        rw [hb] at hq
        simp only [Exit.inBlock, if_true]
        exact ⟨ds, s, os, fs, hq, hr, fun ch h => by cases h⟩
      · have hb : Nat.beq id' id = false := by
          cases hb : Nat.beq id' id with
          | false => rfl
          | true => exact absurd (Nat.eq_of_beq_eq_true hb) he
        rw [hb] at hq
        simp only [Exit.inBlock, if_neg he]
        exact ⟨ds, s, os, fs, hq, hr, fun ch h => by cases h⟩
    | _ => exact ⟨ds, s, os, fs, hq, hr, hp⟩)
theorem W.exit {id : Nat} (h : Q (.exit id) ds s os fs) : W P ro n E (.exit id) Q ds s os fs := fun a w r => wpIn_exit ⟨ds, s, os, fs, h, r, fun ch h => by cases h⟩
theorem W.ret (h : Q .ret ds s os fs) : W P ro n E .ret Q ds s os fs := fun a w r => wpIn_ret ⟨ds, s, os, fs, h, r, fun ch h => by cases h⟩
theorem W.skip (h : Q .normal ds s os fs) : W P ro n E .skip Q ds s os fs := fun a w r => wpIn_skip ⟨ds, s, os, fs, h, r, fun ch h => by cases h⟩
theorem W.cond {c : Operand} {x y : Code} {b : Bool} (hc : ev s c = some (.bool b)) (ht : b = true → W P ro n E x Q ds s os fs) (hf : b = false → W P ro n E y Q ds s os fs) :
    W P ro n E (.cond c x y) Q ds s os fs := fun a w r =>
  wpIn_cond_split (r.ag.eval hc) (fun h => ht h a w r) (fun h => hf h a w r)
theorem W.condT {c : Operand} {x y : Code} (hc : ev s c = some (.bool true)) (ht : W P ro n E x Q ds s os fs) : W P ro n E (.cond c x y) Q ds s os fs := W.cond hc (fun _ => ht) (fun h => by cases h)
theorem W.condF {c : Operand} {x y : Code} (hc : ev s c = some (.bool false)) (hf : W P ro n E y Q ds s os fs) : W P ro n E (.cond c x y) Q ds s os fs := W.cond hc (fun h => by cases h) (fun _ => hf)
theorem W.mono {c : Code} {Q' : SQ} (h : W P ro n E c Q ds s os fs) (hq : ∀ e ds s os fs, Q e ds s os fs → Q' e ds s os fs) : W P ro n E c Q' ds s os fs := fun a w r =>
  wpIn_mono (h a w r) fun e a w ⟨ds, s, os, fs, h1, h2, h3⟩ => ⟨ds, s, os, fs, hq _ _ _ _ _ h1, h2, h3⟩

theorem least_of {p : Nat → Prop} : ∀ {m : Nat}, p m → ∃ k, p k ∧ k ≤ m ∧ ∀ j, p j → k ≤ j := by
  intro m
  induction m using Nat.strongRecOn with
  | _ m ih =>
    intro h
    by_cases hex : ∃ j, j < m ∧ p j
    · obtain ⟨j, hj, hp⟩ := hex
      obtain ⟨k, h1, h2, h3⟩ := ih j hj hp
      exact ⟨k, h1, by omega, h3⟩
    · exact ⟨m, h, Nat.le_refl _, fun j hj => by
        rcases Nat.lt_or_ge j m with h1 | h1
        · exact absurd ⟨j, h1, hj⟩ hex
        · exact h1⟩

/-- A loop: I d holds at a round's head, d going down. -/
theorem W.loop {c : Code} (I : Nat → SK) (d0 : Nat) (h0 : I d0 ds s os fs)
    (round : ∀ d ds s os fs, I d ds s os fs → W P ro n E c (Then (fun ds s os fs => ∃ d', d' < d ∧ I d' ds s os fs) Q) ds s os fs) : W P ro n E (.loop c) Q ds s os fs := fun a w r => by
  let p : Act → World → Nat → Prop := fun a w d => ∃ ds s os fs, I d ds s os fs ∧ Rep n E ds s os fs a w
  have hp0 : p a w d0 := ⟨ds, s, os, fs, h0, r⟩
  let J : Act → World → Prop := fun a w => ∃ d, p a w d
  have hl : ∀ a w, J a w → ∃ k, p a w k ∧ ∀ j, p a w j → k ≤ j := fun a w ⟨d, hd⟩ => let ⟨k, h1, _, h3⟩ := least_of (p := p a w) hd; ⟨k, h1, h3⟩
  let μ : Act → World → Nat := fun a w => @dite Nat (J a w) (Classical.propDecidable _) (fun h => Classical.choose (hl a w h)) (fun _ => 0)
  have hμ : ∀ a w, J a w → p a w (μ a w) ∧ ∀ j, p a w j → μ a w ≤ j := fun a w h => by
    have hs := Classical.choose_spec (hl a w h)
    have e : μ a w = Classical.choose (hl a w h) := dif_pos h
    rw [e]
    exact hs
  refine wpIn_loop J μ ⟨d0, hp0⟩ fun a w hJ => ?_
  obtain ⟨⟨ds, s, os, fs, hI, hr⟩, hmin⟩ := hμ a w hJ
  refine wpIn_mono (round _ ds s os fs hI a w hr) fun e a' w' hq => ?_
  obtain ⟨ds', s', os', fs', hq, hr', hp'⟩ := hq
  cases e with
  | normal =>
    obtain ⟨d', hd', hI'⟩ := hq
    have hJ' : J a' w' := ⟨d', ds', s', os', fs', hI', hr'⟩
    exact ⟨hJ', Nat.lt_of_le_of_lt ((hμ a' w' hJ').2 d' ⟨ds', s', os', fs', hI', hr'⟩) hd'⟩
  | _ => exact ⟨ds', s', os', fs', hq, hr', hp'⟩

/-- What is known may be forgotten. -/
theorem W.drop {c : Code} (s' : Sto) (os' : List Res) (fs' : List Frag) (hs : Le s' s) (ho : os'.Sublist os) (hf : ∀ φ ∈ fs', φ ∈ fs) (h : W P ro n E c Q ds s' os' fs') : W P ro n E c Q ds s os fs :=
  fun a w r => h a w ⟨r.ag.sub hs, r.st.drop ho hf⟩
theorem W.to {c : Code} (s' : Sto) (hs : Le s' s) (h : W P ro n E c Q ds s' os fs) : W P ro n E c Q ds s os fs :=
  fun a w r => h a w ⟨r.ag.sub hs, r.st⟩
theorem W.perm {c : Code} (os' : List Res) (ho : os.Perm os') (h : W P ro n E c Q ds s os' fs) : W P ro n E c Q ds s os fs :=
  fun a w r => h a w ⟨r.ag, r.st.perm ho⟩
theorem W.freeze {c : Code} {r : Res} (h : ∀ w, r.holds w → W P ro n E c Q ds s os (r.frag w :: fs)) : W P ro n E c Q ds s (r :: os) fs :=
  fun a w rp => h w (rp.st.holds r List.mem_cons_self) a w ⟨rp.ag, rp.st.freeze⟩

/-! ### Regions -/
def wantS (ops : Array Oper) (s : Sto) (o : Oper) : Option Bool :=
  match o.guard with
  | none => some true
  | some (j, want) => match ((ops[j]?).bind (·.dst)).bind (Sto.get s) with
    | some (.bool b) => some (b == want)
    | some (.tuple _) => some false
    | _ => none
theorem wantS_spec {ops : Array Oper} {o : Oper} {b : Bool} {a : Act} (h : wantS ops s o = some b) (ha : Ag n ds a s) : Region.wanted o (yielded ops a.tmps) = b := by
  unfold wantS at h
  unfold Region.wanted
  split at h
  · rename_i hg; rw [hg]; simpa using h
  · rename_i j want hg
    rw [hg]
    simp only
    unfold yielded
    cases hd : (ops[j]?).bind (·.dst) with
    | none => rw [hd] at h; simp at h
    | some d =>
      rw [hd] at h
      simp only [Option.bind_some] at h ⊢
      split at h
      · rename_i v hv
        rw [ha.vals d _ hv]
        simpa using h
      · rename_i hv
        rw [ha.vals d _ hv]
        simpa using h
      · cases h

theorem W.region {id : Nat} {l : List Oper} (h : WL P ro n E l.toArray Q l ds s os fs) : W P ro n E (.region id l.toArray false) Q ds s os fs := fun a w r => wpIn_region_lit (h a w r)
theorem WL.nil {ops : Array Oper} (h : Q .normal ds s os fs) : WL P ro n E ops Q [] ds s os fs := fun a w r => wpListIn_nil ⟨ds, s, os, fs, h, r, fun ch h => by cases h⟩
theorem WL.op {ops : Array Oper} {o : Oper} {rest : List Oper} (h : OpS P ro n E Q o (WL P ro n E ops Q rest) ds s os fs) (hw : wantS ops s o = some true := by rfl) :
    WL P ro n E ops Q (o :: rest) ds s os fs := fun a w r => wpListIn_step fun K hK => by
  rw [wantS_spec hw r.ag]
  simp only [if_true]
  refine Oper.wpIn_mono (fun a w hk => ?_) (h a w r)
  obtain ⟨ds, s, os, fs, hk, hr⟩ := hk
  exact hK a w (hk a w hr)
theorem WL.off {ops : Array Oper} {o : Oper} {rest : List Oper} {d : Nat} (hw : wantS ops s o = some false) (hd : o.dst = some d) (hdn : Nat.blt d n = true) (h : WL P ro n E ops Q rest ds ((d, undef) :: s) os fs) :
    WL P ro n E ops Q (o :: rest) ds s os fs := fun a w r => wpListIn_step fun K hK => by
  rw [wantS_spec hw r.ag]
  simp only [Bool.false_eq_true, if_false]
  refine ⟨fun _ _ => trivial, hK _ _ ?_⟩
  rw [hd]
  exact h _ _ ⟨r.ag.put (by simpa [Nat.blt_eq] using hdn) _, r.st⟩

/-! ### What an operation yields, the slots and a part of the heap being known -/
def Hold (os : List Res) (fs : List Frag) (w : World) : Prop := (∀ r ∈ os, r.holds w) ∧ ∀ φ ∈ fs, Sub φ w
theorem Rep.hold {a : Act} {w : World} (r : Rep n E ds s os fs a w) : Hold os fs w := ⟨r.st.holds, r.st.sub⟩
def Y (P : Program) (H : World → Prop) (s : Sto) (op : Op) (v : Value) : Prop :=
  ∀ (o : Oper) (ρ : Operand → Value) (w : World), o.op = op → (∀ x u, ev s x = some u → ρ x = u) → H w → (execOp ρ o).run P w = .ok (.value v) w
/-! ### Operations: the general forms -/
variable {o : Oper} {K : SK}
/-- An operation that yields a value. -/
theorem OpS.val {d : Nat} (hop : ∀ c, o.op ≠ .defer c) (hd : o.dst = some d) (hdn : Nat.blt d n = true)
    (h : ∀ a w, Rep n E ds s os fs a w → ∃ v w' os' fs', (execOp a.eval o).run P w = .ok (.value v) w' ∧ St E.w0 E.S E.F0 w' os' fs' ∧ K ds ((d, v) :: s) os' fs') :
    OpS P ro n E Q o K ds s os fs := fun a w r => by
  obtain ⟨v, w', os', fs', hrun, hst, hk⟩ := h a w r
  refine ⟨fun _ _ => trivial, ?_⟩
  rw [Oper.semAt_eq _ _ _ hop, hrun, Oper.uponIn_value, hd]
  exact ⟨ds, _, os', fs', hk, r.ag.put (by simpa [Nat.blt_eq] using hdn) _, hst⟩
/-- One whose value hangs on the slots alone. -/
theorem OpS.pure {d : Nat} {v : Value} (hop : ∀ c, o.op ≠ .defer c) (hd : o.dst = some d) (hdn : Nat.blt d n = true)
    (h : ∀ (ρ : Operand → Value) (w : World), (∀ x u, ev s x = some u → ρ x = u) → (execOp ρ o).run P w = .ok (.value v) w)
    (hk : K ds ((d, v) :: s) os fs) : OpS P ro n E Q o K ds s os fs :=
  OpS.val hop hd hdn fun a w r => ⟨v, w, os, fs, h _ _ fun x u hx => r.ag.eval hx, r.st, hk⟩
theorem OpS.y {d : Nat} {op : Op} {v : Value} {ty : TypeId} {p : String} {af : Array Edge} {g : Option (Nat × Bool)} (hy : Y P (Hold os fs) s op v) (hk : K ds ((d, v) :: s) os fs) (hop : ∀ c, op ≠ .defer c := by simp) (hdn : Nat.blt d n = true := by rfl) :
    OpS P ro n E Q ⟨some d, op, ty, p, af, g⟩ K ds s os fs :=
  OpS.val hop rfl hdn fun a w r => ⟨v, w, os, fs, hy _ _ _ rfl (fun x u hx => r.ag.eval hx) r.hold, r.st, hk⟩
theorem OpS.yx {d : Nat} {op : Op} {A : Value → Prop} {ty : TypeId} {p : String} {af : Array Edge} {g : Option (Nat × Bool)} (hy : ∃ v, A v ∧ Y P (Hold os fs) s op v) (hk : ∀ v, A v → K ds ((d, v) :: s) os fs) (hop : ∀ c, op ≠ .defer c := by simp) (hdn : Nat.blt d n = true := by rfl) :
    OpS P ro n E Q ⟨some d, op, ty, p, af, g⟩ K ds s os fs :=
  let ⟨v, hv, hy⟩ := hy; OpS.y hy (hk v hv) hop hdn
/-- A store and its kin. -/
theorem OpS.unit (hop : ∀ c, o.op ≠ .defer c) (hd : o.dst = none)
    (h : ∀ a w, Rep n E ds s os fs a w → ∃ w' os' fs', (execOp a.eval o).run P w = .ok .skip w' ∧ St E.w0 E.S E.F0 w' os' fs' ∧ K ds s os' fs') :
    OpS P ro n E Q o K ds s os fs := fun a w r => by
  obtain ⟨w', os', fs', hrun, hst, hk⟩ := h a w r
  refine ⟨fun _ _ => trivial, ?_⟩
  rw [Oper.semAt_eq _ _ _ hop, hrun, Oper.uponIn_skip, hd]
  exact ⟨ds, s, os', fs', hk, r.ag, hst⟩
/-- An operation that panics. -/
theorem OpS.panic {v : Value} (hop : ∀ c, o.op ≠ .defer c)
    (h : ∀ a w, Rep n E ds s os fs a w → ∃ w' os' fs', (execOp a.eval o).run P w = .halt (.panic v) w' ∧ St E.w0 E.S E.F0 w' os' fs' ∧ Q (.panic [{ v, recovered := false }]) ds [] os' fs') :
    OpS P ro n E Q o K ds s os fs := fun a w r => by
  obtain ⟨w', os', fs', hrun, hst, hk⟩ := h a w r
  refine ⟨fun _ _ => trivial, ?_⟩
  rw [Oper.semAt_eq _ _ _ hop, hrun, Oper.uponIn_panic]
  exact ⟨ds, [], os', fs', hk, ⟨r.ag.sub trivial, hst⟩, fun _ _ => rfl⟩
/-- A call of a Go function. -/
theorem OpS.enter {f : FuncId} {args : Array Value} {rs rest : List Res} {cs : List Frag} {post : Ending → List Res → List Frag → Prop} {d : Option Nat} (hop : ∀ c, o.op ≠ .defer c) (hd : o.dst = d)
    (hdn : ∀ t, d = some t → Nat.blt t n = true)
    (hrun : ∀ (ρ : Operand → Value) (w : World), (∀ x u, ev s x = some u → ρ x = u) → (execOp ρ o).run P w = .ok (.enter f args) w)
    (hs : Spec P f args rs cs post) (hp : os.Perm (rs ++ rest)) (hc : ∀ φ ∈ cs, φ ∈ fs)
    (h : ∀ e rs' cs', post e rs' cs' → match e with
      | .returned v => K ds (putS d v s) (rs' ++ rest) (cs' ++ fs)
      | .panicked ch => Q (.panic ch) ds [] (rs' ++ rest) (cs' ++ fs)
      | .outgrown => False) :
    OpS P ro n E Q o K ds s os fs := fun a w r => by
  refine ⟨fun _ _ => trivial, ?_⟩
  rw [Oper.semAt_eq _ _ _ hop, hrun _ _ fun x u hx => r.ag.eval hx, Oper.uponIn_enter]
  have hst := r.st.perm hp
  refine ⟨(fun h => by cases h), callsIn_FW ((hs w (hst.pre hc)).mono fun e w' ⟨rs', cs', hpost, hk⟩ => ?_)⟩
  have h2 := h e rs' cs' hpost
  have h3 := hst.call hc hk
  cases e with
  | returned v =>
    cases d with
    | none => rw [hd]; exact ⟨ds, _, _, _, h2, r.ag, h3⟩
    | some t => rw [hd]; exact ⟨ds, _, _, _, h2, r.ag.put (by simpa [Nat.blt_eq] using hdn t rfl) _, h3⟩
  | panicked ch => exact ⟨ds, [], _, _, h2, ⟨r.ag.sub trivial, h3⟩, fun _ _ => rfl⟩
  | outgrown => exact h2.elim
end

end Go.Proofs.Sep
