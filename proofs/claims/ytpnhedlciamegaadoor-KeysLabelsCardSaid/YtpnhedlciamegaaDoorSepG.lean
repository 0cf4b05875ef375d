/- A region whose order Go leaves open, over the symbolic state: what only reads is taken first. -/
import Derived.Test.YtpnhedlciamegaaDoorSepF
set_option linter.all false
set_option linter.unnecessarySimpa false
set_option linter.deprecated false
set_option linter.unusedVariables false
set_option linter.unusedSimpArgs false
namespace Go.Proofs.Sep
open Go Go.RowKit

section
variable {P : Program} {ro : Option Nat} {ops : Array Oper} {Q : Exit → Act → World → Prop} {S : World → Prop} {dl : List Nat}

theorem yIf_wp {i : Nat} {o : Oper} {v : Value} {a : Act} (hi : ops[i]? = some o) (hdf : ∀ c, o.op ≠ .defer c) (hy : YieldsIf P ops S o v a) {K : Act → World → Prop} {w : World} (hS : S w) (h : K (a.put o.dst v) w) :
    wpOpIn (FW ro) 0 P ops Q i K a w := by
  unfold wpOpIn
  simp only [hi]
  rcases hy with ⟨hw, hv⟩ | ⟨hw, rfl⟩
  · simp only [hw, if_true, Oper.wpIn, Oper.semAt_eq _ _ _ hdf, hv w hS, Oper.uponIn]; exact ⟨fun _ _ => trivial, h⟩
  · simp only [hw, Bool.false_eq_true, if_false]; exact ⟨fun _ _ => trivial, h⟩

theorem wp_putIf {j : Nat} {oi oj : Oper} {v : Value} (hj : ops[j]? = some oj) (hap : oi.apart ops oj = true)
    (hsi : ∀ cs b, oi.op ≠ .select cs b) (hsj : ∀ cs b, oj.op ≠ .select cs b) (hdj : ∀ c, oj.op ≠ .defer c)
    (hQ : ∀ c a w, Q (.panic c) (a.put oi.dst v) w → Q (.panic c) a w) {K : Act → World → Prop} {a : Act} {w : World}
    (hy : YieldsIf P ops S oi v a) (h : wpOpIn (FW ro) 0 P ops Q j K (a.put oi.dst v) w) :
    wpOpIn (FW ro) 0 P ops Q j (fun a' w' => YieldsIf P ops S oi v a' ∧ K (a'.put oi.dst v) w') a w := by
  obtain ⟨h1, h2, h3⟩ := Oper.apart_spec hap
  have keep : ∀ (a : Act), YieldsIf P ops S oi v a → ∀ u, YieldsIf P ops S oi v (a.put oj.dst u) := fun a hy u =>
    hy.of_same (execOp_put oi hsi a oj.dst u h3) (wanted_put oi a oj.dst u h3)
  have keepD : ∀ d, YieldsIf P ops S oi v { a with defers := d :: a.defers } := fun d => hy.of_same rfl rfl
  unfold wpOpIn at *
  simp only [hj] at *
  rw [wanted_put oj a oi.dst v h1] at h
  split
  · rename_i hw
    simp only [hw, if_true] at h
    unfold Oper.wpIn at *
    refine ⟨fun _ _ => trivial, ?_⟩
    have h := h.2
    rw [Oper.semAt_eq _ _ _ hdj, execOp_put oj hsj a oi.dst v h1] at h
    rw [Oper.semAt_eq _ _ _ hdj]
    generalize (execOp a.eval oj).run P w = r at *
    cases r with
    | ok x w' =>
      cases x <;> simp only [Oper.uponIn] at h ⊢
      case value u => exact ⟨keep a hy u, by rw [← Act.put_comm a v u h2]; exact h⟩
      case skip => exact ⟨keep a hy _, by rw [← Act.put_comm a v undef h2]; exact h⟩
      case defer d =>
        refine ⟨keep _ (keepD d) _, ?_⟩
        rw [← Act.put_comm _ v undef h2, ← Act.put_defers]
        exact h
      case enter f args =>
        refine ⟨h.1, CallsIn.mono h.2 fun e w'' he => ?_⟩
        cases e with
        | returned u => exact ⟨keep a hy u, by rw [← Act.put_comm a v u h2]; exact he⟩
        | panicked c => exact hQ _ _ _ he
        | outgrown => exact he
      case row row args => exact ⟨h.1, RowsIn.mono h.2 fun u w'' he => ⟨keep a hy u, by rw [← Act.put_comm a v u h2]; exact he⟩⟩
      case round l f tmps assign body =>
        refine ⟨h.1, RoundIn.mono h.2 fun e w'' he => ?_⟩
        cases e with
        | returned u => exact ⟨keep a hy u, by rw [← Act.put_comm a v u h2]; exact he⟩
        | panicked c => exact hQ _ _ _ he
        | outgrown => exact he
    | halt x w' =>
      cases x <;> simp only [Oper.uponIn] at h ⊢
      case panic u => exact hQ _ _ _ h
  · rename_i hw
    simp only [hw] at h
    exact ⟨fun _ _ => trivial, keep a hy _, by rw [← Act.put_comm a v undef h2]; exact h.2⟩

/-- Whatever order is picked from here on, S holding behind every operation but those of dl. -/
def AnyL (P : Program) (ro : Option Nat) (ops : Array Oper) (Q : Exit → Act → World → Prop) (S : World → Prop) (dl : List Nat) : Nat → Array Bool → Act → World → Prop
  | 0, listed, a, w => Region.ready .any ops listed = [] ∧ Q .normal a w
  | fuel + 1, listed, a, w =>
    (Region.ready .any ops listed = [] → Q .normal a w) ∧
    ∀ i ∈ Region.ready .any ops listed, wpOpIn (FW ro) 0 P ops Q i (fun a' w' => (i ∉ dl → S w → S w') ∧ AnyL P ro ops Q S dl fuel (listed.setIfInBounds i true) a' w') a w
theorem any_of_AnyL : ∀ (fuel : Nat) (listed : Array Bool) (a : Act) (w : World), AnyL P ro ops Q S dl fuel listed a w → wpAnyIn (FW ro) 0 P .any ops Q fuel listed a w
  | 0, _, _, _, h => h
  | fuel + 1, _, _, _, h => ⟨h.1, fun i hi => wpOpIn_mono (fun a' w' h' => any_of_AnyL fuel _ a' w' h'.2) (h.2 i hi)⟩

/-! the table of a region: what an operation waits for; what may not come up behind it, if it is taken first -/
def needsOf (o : Oper) : List Nat := (o.after.toList.filter (fun e => Region.binds .any e)).map (·.on)
def clashOf (ops : Array Oper) (i : Nat) (oi : Oper) : List Nat := (List.range ops.size).filter fun j => !(Nat.beq j i) && match ops[j]? with
  | some oj => !((needsOf oj).contains i || oi.apart ops oj)
  | none => false
def plainOps (ops : Array Oper) : Bool := ops.all fun o => match o.op with | .select _ _ => false | .defer _ => false | _ => true
def rtab (ops : Array Oper) : Bool × List (List Nat × List Nat) := (plainOps ops, (List.range ops.size).map fun i => match ops[i]? with
  | some o => (needsOf o, clashOf ops i o)
  | none => ([], []))
def readyAt (T : List (List Nat × List Nat)) (l : List Bool) (i : Nat) : Bool := !l.getD i true && match T[i]? with
  | some r => r.1.all (fun j => l.getD j false)
  | none => false
def readyT (T : List (List Nat × List Nat)) (l : List Bool) : List Nat := (List.range T.length).filter (readyAt T l)
def reachT (T : List (List Nat × List Nat)) (i : Nat) : Nat → Nat → Bool
  | 0, _ => false
  | fuel + 1, d => match T[d]? with
    | some r => r.1.any fun j => Nat.beq j i || reachT T i fuel j
    | none => false
def Closed (T : List (List Nat × List Nat)) (l : List Bool) : Prop := ∀ j r, T[j]? = some r → l.getD j false = true → ∀ k ∈ r.1, l.getD k false = true

theorem gd (l : List Bool) (j : Nat) (b : Bool) : l.toArray.getD j b = l.getD j b := by simp [Array.getD_eq_getD_getElem?, List.getD_eq_getElem?_getD]
theorem needs_all (o : Oper) (q : Nat → Bool) : o.after.all (fun e => !Region.binds .any e || q e.on) = (needsOf o).all q := by
  unfold needsOf
  rw [← Array.all_toList]
  induction o.after.toList with
  | nil => rfl
  | cons e r ih =>
    rw [List.all_cons, ih, List.filter_cons]
    cases h : Region.binds .any e <;> simp
theorem rtab_some {i : Nat} {o : Oper} (h : ops[i]? = some o) : (rtab ops).2[i]? = some (needsOf o, clashOf ops i o) := by
  have hi := (Array.getElem?_eq_some_iff.1 h).1
  unfold rtab
  rw [List.getElem?_map, List.getElem?_range hi, Option.map_some, h]
theorem rtab_len : (rtab ops).2.length = ops.size := by simp [rtab]
theorem ready_eq (l : List Bool) : Region.ready .any ops l.toArray = readyT (rtab ops).2 l := by
  unfold Region.ready readyT
  rw [rtab_len]
  refine List.filter_congr fun i hi => ?_
  have hlt : i < ops.size := List.mem_range.1 hi
  unfold readyAt
  rw [gd]
  have ho : ops[i]? = some ops[i] := Array.getElem?_eq_getElem hlt
  rw [rtab_some ho, ho]
  simp only [Option.map_some, Option.getD_some]
  rw [← needs_all]
  simp only [gd]

theorem reach_not {T : List (List Nat × List Nat)} {l : List Bool} {i : Nat} (hc : Closed T l) : ∀ (fuel d : Nat), reachT T i fuel d = true → l.getD d false = true → l.getD i false = true
  | 0, _, h, _ => by simp [reachT] at h
  | fuel + 1, d, h, hl => by
    unfold reachT at h
    cases ho : T[d]? with
    | none => rw [ho] at h; simp at h
    | some r =>
      rw [ho] at h
      obtain ⟨j, hj, h1⟩ := List.any_eq_true.1 h
      have hlj := hc d r ho hl j hj
      rw [Bool.or_eq_true] at h1
      rcases h1 with h2 | h2
      · have := Nat.eq_of_beq_eq_true h2
        subst this; exact hlj
      · exact reach_not hc fuel j h2 hlj
theorem reach_ready {T : List (List Nat × List Nat)} {l : List Bool} {i d fuel : Nat} (hc : Closed T l) (hr : reachT T i fuel d = true) (hun : l.getD i true = false) : readyAt T l d = false := by
  cases hd : readyAt T l d with
  | false => rfl
  | true =>
    exfalso
    unfold readyAt at hd
    rw [Bool.and_eq_true] at hd
    cases fuel with
    | zero => simp [reachT] at hr
    | succ n =>
      unfold reachT at hr
      cases ho : T[d]? with
      | none => rw [ho] at hr; simp at hr
      | some r =>
        rw [ho] at hr hd
        obtain ⟨j, hj, h1⟩ := List.any_eq_true.1 hr
        have hlj : l.getD j false = true := List.all_eq_true.1 hd.2 j hj
        rw [Bool.or_eq_true] at h1
        have hi : l.getD i false = true := by
          rcases h1 with h2 | h2
          · have := Nat.eq_of_beq_eq_true h2
            subst this; exact hlj
          · exact reach_not hc n j h2 hlj
        rw [List.getD_eq_getElem?_getD] at hi hun
        cases hq : l[i]? with
        | none => rw [hq] at hi; simp at hi
        | some b => rw [hq] at hi hun; simp at hi hun; rw [hi] at hun; cases hun
theorem getD_set (l : List Bool) (i j : Nat) (b : Bool) : (l.set i true).getD j b = if i = j ∧ j < l.length then true else l.getD j b := by
  rw [List.getD_eq_getElem?_getD, List.getD_eq_getElem?_getD, List.getElem?_set]
  by_cases h : i = j
  · subst h
    by_cases h2 : i < l.length
    · simp [h2]
    · simp [h2, List.getElem?_eq_none (by omega : l.length ≤ i)]
  · simp [h]
theorem Closed.set {T : List (List Nat × List Nat)} {l : List Bool} {i : Nat} (hc : Closed T l) (hr : readyAt T l i = true) : Closed T (l.set i true) := by
  intro j r hj hl k hk
  have hup : ∀ m, l.getD m false = true → (l.set i true).getD m false = true := fun m hm => by rw [getD_set]; split <;> simp_all
  rw [getD_set] at hl
  split at hl
  · rename_i h
    obtain ⟨rfl, _⟩ := h
    unfold readyAt at hr
    rw [Bool.and_eq_true, hj] at hr
    exact hup k (List.all_eq_true.1 hr.2 k hk)
  · exact hup k (hc j r hj hl k hk)

/-- What makes number i fit to be taken first. -/
def takeT (T : Bool × List (List Nat × List Nat)) (dl : List Nat) (l : List Bool) (i : Nat) : Bool :=
  T.1 && readyAt T.2 l i && (match T.2[i]? with | some r => r.2.all (fun j => l.getD j true) | none => false) && dl.all fun d => l.getD d true || reachT T.2 i T.2.length d

theorem plain_spec (h : plainOps ops = true) {i : Nat} {o : Oper} (ho : ops[i]? = some o) : (∀ cs b, o.op ≠ .select cs b) ∧ ∀ c, o.op ≠ .defer c := by
  have hm : o ∈ ops := Array.mem_of_getElem? ho
  have := Array.all_eq_true_iff_forall_mem.1 h o hm
  refine ⟨fun cs b he => ?_, fun c he => ?_⟩ <;> rw [he] at this <;> cases this

theorem AnyL_first {i : Nat} {oi : Oper} {v : Value} (hi : ops[i]? = some oi) (hpl : plainOps ops = true) (hQ : ∀ c a w, Q (.panic c) (a.put oi.dst v) w → Q (.panic c) a w) :
    ∀ (fuel : Nat) (l : List Bool) (a : Act) (w : World), (∀ j ∈ clashOf ops i oi, l.getD j true = true) → Closed (rtab ops).2 l → (∀ d ∈ dl, l.getD d true = false → reachT (rtab ops).2 i (rtab ops).2.length d = true) →
      readyAt (rtab ops).2 l i = true → YieldsIf P ops S oi v a → S w →
      AnyL P ro ops Q S dl fuel (l.set i true).toArray (a.put oi.dst v) w → AnyL P ro ops Q S dl (fuel + 1) l.toArray a w := by
  have hsi := plain_spec hpl hi
  have hset : ∀ (l : List Bool) (k : Nat), l.toArray.setIfInBounds k true = (l.set k true).toArray := fun l k => by simp
  have hmem : ∀ (l : List Bool) (j : Nat), j ∈ Region.ready .any ops l.toArray ↔ j < ops.size ∧ readyAt (rtab ops).2 l j = true := fun l j => by
    rw [ready_eq]; unfold readyT; rw [List.mem_filter, List.mem_range, rtab_len]
  have hlti : i < ops.size := (Array.getElem?_eq_some_iff.1 hi).1
  have hmono : ∀ (l : List Bool) (j : Nat), readyAt (rtab ops).2 l j = true → j ≠ i → readyAt (rtab ops).2 (l.set i true) j = true := fun l j h hne => by
    unfold readyAt at h ⊢
    rw [Bool.and_eq_true] at h ⊢
    refine ⟨by rw [getD_set, if_neg (by rintro ⟨e, _⟩; exact hne e.symm)]; exact h.1, ?_⟩
    cases hT : (rtab ops).2[j]? with
    | none => rw [hT] at h; exact absurd h.2 (by simp)
    | some r =>
      rw [hT] at h
      refine List.all_eq_true.2 fun k hk => ?_
      rw [getD_set]
      split
      · rfl
      · exact List.all_eq_true.1 h.2 k hk
  intro fuel
  induction fuel with
  | zero =>
    intro l a w _ _ _ hr hy hS H
    have hri : i ∈ Region.ready .any ops l.toArray := (hmem l i).2 ⟨hlti, hr⟩
    refine ⟨fun h => (by rw [h] at hri; cases hri), fun j hj => ?_⟩
    by_cases hji : j = i
    · subst hji
      exact yIf_wp hi hsi.2 hy hS ⟨fun _ h => h, by rw [hset]; exact H⟩
    · have h1 := (hmem (l.set i true) j).2 ⟨((hmem l j).1 hj).1, hmono l j ((hmem l j).1 hj).2 hji⟩
      rw [H.1] at h1
      cases h1
  | succ fuel ih =>
    intro l a w hfree hc hd hr hy hS H
    have hri : i ∈ Region.ready .any ops l.toArray := (hmem l i).2 ⟨hlti, hr⟩
    refine ⟨fun h => (by rw [h] at hri; cases hri), fun j hj => ?_⟩
    by_cases hji : j = i
    · subst hji
      exact yIf_wp hi hsi.2 hy hS ⟨fun _ h => h, by rw [hset]; exact H⟩
    · have hjr := (hmem l j).1 hj
      have h1 := H.2 j ((hmem (l.set i true) j).2 ⟨hjr.1, hmono l j hjr.2 hji⟩)
      have hoj : ops[j]? = some ops[j] := Array.getElem?_eq_getElem hjr.1
      have hsj := plain_spec hpl hoj
      have hun : l.getD j true = false := by
        have := hjr.2; unfold readyAt at this; rw [Bool.and_eq_true] at this; simpa using this.1
      have hiun : l.getD i true = false := by
        have := hr; unfold readyAt at this; rw [Bool.and_eq_true] at this; simpa using this.1
      have hap : oi.apart ops ops[j] = true := by
        cases hq : oi.apart ops ops[j] with
        | true => rfl
        | false =>
          exfalso
          have hnc : j ∉ clashOf ops i oi := fun hm => by rw [hfree j hm] at hun; cases hun
          apply hnc
          unfold clashOf
          rw [List.mem_filter, List.mem_range]
          refine ⟨hjr.1, ?_⟩
          rw [hoj]
          have hne : Nat.beq j i = false := by
            cases hb : Nat.beq j i with
            | false => rfl
            | true => exact absurd (Nat.eq_of_beq_eq_true hb) hji
          have hnn : (needsOf ops[j]).contains i = false := by
            cases hb : (needsOf ops[j]).contains i with
            | false => rfl
            | true =>
              exfalso
              have hm : i ∈ needsOf ops[j] := by simpa using hb
              have := hjr.2
              unfold readyAt at this
              rw [Bool.and_eq_true, rtab_some hoj] at this
              have h3 := List.all_eq_true.1 this.2 i hm
              rw [List.getD_eq_getElem?_getD] at h3 hiun
              cases hq2 : l[i]? with
              | none => rw [hq2] at h3; simp at h3
              | some b => rw [hq2] at h3 hiun; simp at h3 hiun; rw [h3] at hiun; cases hiun
          rw [hne]
          show (!false && !((needsOf ops[j]).contains i || oi.apart ops ops[j])) = true
          rw [hnn, hq]; rfl
      have hjd : j ∉ dl := fun hm => by
        have := reach_ready hc (hd j hm hun) hiun
        rw [hjr.2] at this; cases this
      have h2 := wp_putIf hoj hap hsi.1 hsj.1 hsj.2 hQ hy h1
      refine wpOpIn_mono (fun a' w' h3 => ⟨h3.2.1, ?_⟩) h2
      rw [hset]
      refine ih (l.set j true) a' w' (fun k hk => ?_) (hc.set hjr.2) (fun d hdm hun' => ?_) ?_ h3.1 (h3.2.1 hjd hS) ?_
      · rw [getD_set]; split
        · rfl
        · exact hfree k hk
      · refine hd d hdm ?_
        rw [getD_set] at hun'
        split at hun'
        · cases hun'
        · exact hun'
      · -- i is ready still
        unfold readyAt at hr ⊢
        rw [Bool.and_eq_true] at hr ⊢
        refine ⟨by rw [getD_set, if_neg (by rintro ⟨e, _⟩; exact hji e)]; exact hr.1, ?_⟩
        rw [rtab_some hi] at hr ⊢
        refine List.all_eq_true.2 fun k hk => ?_
        rw [getD_set]
        split
        · rfl
        · exact List.all_eq_true.1 hr.2 k hk
      · have h4 := h3.2.2
        rw [hset] at h4
        rw [List.set_comm _ _ (Ne.symm hji)] at h4
        exact h4
/-- .. if it reads nothing of the heap. -/
theorem AnyL_firstP {i : Nat} {oi : Oper} {v : Value} (hi : ops[i]? = some oi) (hpl : plainOps ops = true) (hQ : ∀ c a w, Q (.panic c) (a.put oi.dst v) w → Q (.panic c) a w) :
    ∀ (fuel : Nat) (l : List Bool) (a : Act) (w : World), (∀ j ∈ clashOf ops i oi, l.getD j true = true) → Closed (rtab ops).2 l → readyAt (rtab ops).2 l i = true → YieldsIf P ops (fun _ => True) oi v a →
      AnyL P ro ops Q S dl fuel (l.set i true).toArray (a.put oi.dst v) w → AnyL P ro ops Q S dl (fuel + 1) l.toArray a w := by
  have hsi := plain_spec hpl hi
  have hset : ∀ (l : List Bool) (k : Nat), l.toArray.setIfInBounds k true = (l.set k true).toArray := fun l k => by simp
  have hmem : ∀ (l : List Bool) (j : Nat), j ∈ Region.ready .any ops l.toArray ↔ j < ops.size ∧ readyAt (rtab ops).2 l j = true := fun l j => by
    rw [ready_eq]; unfold readyT; rw [List.mem_filter, List.mem_range, rtab_len]
  have hlti : i < ops.size := (Array.getElem?_eq_some_iff.1 hi).1
  have hmono : ∀ (l : List Bool) (j : Nat), readyAt (rtab ops).2 l j = true → j ≠ i → readyAt (rtab ops).2 (l.set i true) j = true := fun l j h hne => by
    unfold readyAt at h ⊢
    rw [Bool.and_eq_true] at h ⊢
    refine ⟨by rw [getD_set, if_neg (by rintro ⟨e, _⟩; exact hne e.symm)]; exact h.1, ?_⟩
    cases hT : (rtab ops).2[j]? with
    | none => rw [hT] at h; exact absurd h.2 (by simp)
    | some r =>
      rw [hT] at h
      refine List.all_eq_true.2 fun k hk => ?_
      rw [getD_set]
      split
      · rfl
      · exact List.all_eq_true.1 h.2 k hk
  intro fuel
  induction fuel with
  | zero =>
    intro l a w _ _ hr hy H
    have hri : i ∈ Region.ready .any ops l.toArray := (hmem l i).2 ⟨hlti, hr⟩
    refine ⟨fun h => (by rw [h] at hri; cases hri), fun j hj => ?_⟩
    by_cases hji : j = i
    · subst hji
      exact yIf_wp hi hsi.2 hy trivial ⟨fun _ h => h, by rw [hset]; exact H⟩
    · have h1 := (hmem (l.set i true) j).2 ⟨((hmem l j).1 hj).1, hmono l j ((hmem l j).1 hj).2 hji⟩
      rw [H.1] at h1
      cases h1
  | succ fuel ih =>
    intro l a w hfree hc hr hy H
    have hri : i ∈ Region.ready .any ops l.toArray := (hmem l i).2 ⟨hlti, hr⟩
    refine ⟨fun h => (by rw [h] at hri; cases hri), fun j hj => ?_⟩
    by_cases hji : j = i
    · subst hji
      exact yIf_wp hi hsi.2 hy trivial ⟨fun _ h => h, by rw [hset]; exact H⟩
    · have hjr := (hmem l j).1 hj
      have h1 := H.2 j ((hmem (l.set i true) j).2 ⟨hjr.1, hmono l j hjr.2 hji⟩)
      have hoj : ops[j]? = some ops[j] := Array.getElem?_eq_getElem hjr.1
      have hsj := plain_spec hpl hoj
      have hun : l.getD j true = false := by
        have := hjr.2; unfold readyAt at this; rw [Bool.and_eq_true] at this; simpa using this.1
      have hiun : l.getD i true = false := by
        have := hr; unfold readyAt at this; rw [Bool.and_eq_true] at this; simpa using this.1
      have hap : oi.apart ops ops[j] = true := by
        cases hq : oi.apart ops ops[j] with
        | true => rfl
        | false =>
          exfalso
          have hnc : j ∉ clashOf ops i oi := fun hm => by rw [hfree j hm] at hun; cases hun
          apply hnc
          unfold clashOf
          rw [List.mem_filter, List.mem_range]
          refine ⟨hjr.1, ?_⟩
          rw [hoj]
          have hne : Nat.beq j i = false := by
            cases hb : Nat.beq j i with
            | false => rfl
            | true => exact absurd (Nat.eq_of_beq_eq_true hb) hji
          have hnn : (needsOf ops[j]).contains i = false := by
            cases hb : (needsOf ops[j]).contains i with
            | false => rfl
            | true =>
              exfalso
              have hm : i ∈ needsOf ops[j] := by simpa using hb
              have := hjr.2
              unfold readyAt at this
              rw [Bool.and_eq_true, rtab_some hoj] at this
              have h3 := List.all_eq_true.1 this.2 i hm
              rw [List.getD_eq_getElem?_getD] at h3 hiun
              cases hq2 : l[i]? with
              | none => rw [hq2] at h3; simp at h3
              | some b => rw [hq2] at h3 hiun; simp at h3 hiun; rw [h3] at hiun; cases hiun
          rw [hne]
          show (!false && !((needsOf ops[j]).contains i || oi.apart ops ops[j])) = true
          rw [hnn, hq]; rfl
      have h2 := wp_putIf hoj hap hsi.1 hsj.1 hsj.2 hQ hy h1
      refine wpOpIn_mono (fun a' w' h3 => ⟨h3.2.1, ?_⟩) h2
      rw [hset]
      refine ih (l.set j true) a' w' (fun k hk => ?_) (hc.set hjr.2) ?_ h3.1 ?_
      · rw [getD_set]; split
        · rfl
        · exact hfree k hk
      · -- i is ready still
        unfold readyAt at hr ⊢
        rw [Bool.and_eq_true] at hr ⊢
        refine ⟨by rw [getD_set, if_neg (by rintro ⟨e, _⟩; exact hji e)]; exact hr.1, ?_⟩
        rw [rtab_some hi] at hr ⊢
        refine List.all_eq_true.2 fun k hk => ?_
        rw [getD_set]
        split
        · rfl
        · exact List.all_eq_true.1 hr.2 k hk
      · have h4 := h3.2.2
        rw [hset] at h4
        rw [List.set_comm _ _ (Ne.symm hji)] at h4
        exact h4
end

/-! ### Over the symbolic state -/
structure Incl (oS os : List Res) (fS fs : List Frag) : Prop where
  os : ∀ r ∈ oS, r ∈ os
  fs : ∀ φ ∈ fS, φ ∈ fs
theorem Incl.hold {oS os : List Res} {fS fs : List Frag} (h : Incl oS os fS fs) {w : World} (hw : Hold os fs w) : Hold oS fS w := ⟨fun r hr => hw.1 r (h.os r hr), fun φ hφ => hw.2 φ (h.fs φ hφ)⟩
theorem Incl.refl (os : List Res) (fs : List Frag) : Incl os os fs fs := ⟨fun _ h => h, fun _ h => h⟩
theorem Incl.none (os : List Res) (fs : List Frag) : Incl [] os [] fs := ⟨by simp, by simp⟩

def WD (P : Program) (ro : Option Nat) (n : Nat) (E : Env) (ops : Array Oper) (Q : SQ) (T : Bool × List (List Nat × List Nat)) (oS : List Res) (fS : List Frag) (dl : List Nat) (fuel : Nat) (l : List Bool) : SK := fun ds s os fs =>
  rtab ops = T → Closed T.2 l → Incl oS os fS fs → ∀ a w, Rep n E ds s os fs a w → AnyL P ro ops (lift n E Q) (Hold oS fS) dl fuel l.toArray a w

section
variable {P : Program} {ro : Option Nat} {n : Nat} {E : Env} {Q : SQ} {ds : List Deferred} {s : Sto} {os : List Res} {fs : List Frag}
variable {ops : Array Oper} {T : Bool × List (List Nat × List Nat)} {oS : List Res} {fS : List Frag} {dl : List Nat} {fuel : Nat} {l : List Bool}

theorem W.draw {id : Nat} {lo : List Oper} (hm : P.follows .mixedOrders = true) (T : Bool × List (List Nat × List Nat)) (dl : List Nat) (hT : rtab lo.toArray = T) (oS : List Res) (fS : List Frag) (hi : Incl oS os fS fs)
    (h : WD P ro n E lo.toArray Q T oS fS dl lo.length (List.replicate lo.length false) ds s os fs) : W P ro n E (.region id lo.toArray true) Q ds s os fs := fun a w r => by
  refine wpIn_region_any hm (any_of_AnyL (S := Hold oS fS) (dl := dl) _ _ _ _ ?_)
  have e1 : Array.replicate lo.toArray.size false = (List.replicate lo.length false).toArray := by simp
  rw [e1, List.size_toArray]
  refine h hT ?_ hi a _ ⟨r.ag, r.st.same ⟨rfl, rfl, rfl, Nat.le_refl _, fun _ _ _ => rfl⟩⟩
  intro j r' hj hl
  rw [List.getD_eq_getElem?_getD, List.getElem?_replicate] at hl
  split at hl <;> simp at hl

theorem panic_put {d : Option Nat} {v : Value} (c : List PanicEntry) (a : Act) (w : World) (h : lift n E Q (.panic c) (a.put d v) w) : lift n E Q (.panic c) a w := by
  obtain ⟨ds, s, os, fs, hq, hr, hp⟩ := h
  have hs := hp c rfl
  subst hs
  refine ⟨ds, [], os, fs, hq, ⟨⟨?_, ?_, fun t v hv => by simp [Sto.get] at hv⟩, hr.st⟩, fun _ _ => rfl⟩
  · have := hr.ag.size; cases d <;> simpa [Act.put] using this
  · have := hr.ag.defers; cases d <;> simpa [Act.put] using this

/-- Take number i first: it only reads what stays. -/
theorem WD.take (i : Nat) {d : Nat} {op : Op} {ty : TypeId} {p : String} {af : Array Edge} {g : Option (Nat × Bool)} {v : Value} (hi : ops[i]? = some ⟨some d, op, ty, p, af, g⟩) (hc : takeT T dl l i = true) (hy : Y P (Hold oS fS) s op v)
    (h : WD P ro n E ops Q T oS fS dl fuel (l.set i true) ds ((d, v) :: s) os fs) (hw : wantS ops s ⟨some d, op, ty, p, af, g⟩ = some true := by rfl) (hdn : Nat.blt d n = true := by rfl) :
    WD P ro n E ops Q T oS fS dl (fuel + 1) l ds s os fs := fun hT hcl hin a w r => by
  subst hT
  simp only [takeT, Bool.and_eq_true] at hc
  obtain ⟨⟨⟨h1, h2⟩, h3⟩, h4⟩ := hc
  rw [rtab_some hi] at h3
  refine AnyL_first hi h1 (fun c a w => panic_put c a w) fuel l a w (fun j hj => List.all_eq_true.1 h3 j hj) hcl (fun d hd hu => by have := List.all_eq_true.1 h4 d hd; rw [hu] at this; simpa using this) h2
    (.inl ⟨wantS_spec hw r.ag, fun w hS => hy _ _ w rfl (fun x u hx => r.ag.eval hx) hS⟩) (hin.hold r.hold) ?_
  exact h rfl (hcl.set h2) hin _ _ ⟨r.ag.put (by simpa [Nat.blt_eq] using hdn) _, r.st⟩
theorem WD.takeX (i : Nat) {d : Nat} {op : Op} {ty : TypeId} {p : String} {af : Array Edge} {g : Option (Nat × Bool)} {A : Value → Prop} (hi : ops[i]? = some ⟨some d, op, ty, p, af, g⟩) (hc : takeT T dl l i = true) (hy : ∃ v, A v ∧ Y P (Hold oS fS) s op v)
    (h : ∀ v, A v → WD P ro n E ops Q T oS fS dl fuel (l.set i true) ds ((d, v) :: s) os fs) (hw : wantS ops s ⟨some d, op, ty, p, af, g⟩ = some true := by rfl) (hdn : Nat.blt d n = true := by rfl) :
    WD P ro n E ops Q T oS fS dl (fuel + 1) l ds s os fs := let ⟨v, hv, hy⟩ := hy; WD.take i hi hc hy (h v hv) hw hdn
/-- Take number i first: it reads slots alone. -/
def takeTP (T : Bool × List (List Nat × List Nat)) (l : List Bool) (i : Nat) : Bool :=
  T.1 && readyAt T.2 l i && (match T.2[i]? with | some r => r.2.all (fun j => l.getD j true) | none => false)
theorem WD.takeP (i : Nat) {d : Nat} {op : Op} {ty : TypeId} {p : String} {af : Array Edge} {g : Option (Nat × Bool)} {v : Value} (hi : ops[i]? = some ⟨some d, op, ty, p, af, g⟩) (hc : takeTP T l i = true) (hy : Y P (fun _ => True) s op v)
    (h : WD P ro n E ops Q T oS fS dl fuel (l.set i true) ds ((d, v) :: s) os fs) (hw : wantS ops s ⟨some d, op, ty, p, af, g⟩ = some true := by rfl) (hdn : Nat.blt d n = true := by rfl) :
    WD P ro n E ops Q T oS fS dl (fuel + 1) l ds s os fs := fun hT hcl hin a w r => by
  subst hT
  simp only [takeTP, Bool.and_eq_true] at hc
  obtain ⟨⟨h1, h2⟩, h3⟩ := hc
  rw [rtab_some hi] at h3
  refine AnyL_firstP hi h1 (fun c a w => panic_put c a w) fuel l a w (fun j hj => List.all_eq_true.1 h3 j hj) hcl h2
    (.inl ⟨wantS_spec hw r.ag, fun w hS => hy _ _ w rfl (fun x u hx => r.ag.eval hx) hS⟩) ?_
  exact h rfl (hcl.set h2) hin _ _ ⟨r.ag.put (by simpa [Nat.blt_eq] using hdn) _, r.st⟩
theorem WD.takeXP (i : Nat) {d : Nat} {op : Op} {ty : TypeId} {p : String} {af : Array Edge} {g : Option (Nat × Bool)} {A : Value → Prop} (hi : ops[i]? = some ⟨some d, op, ty, p, af, g⟩) (hc : takeTP T l i = true) (hy : ∃ v, A v ∧ Y P (fun _ => True) s op v)
    (h : ∀ v, A v → WD P ro n E ops Q T oS fS dl fuel (l.set i true) ds ((d, v) :: s) os fs) (hw : wantS ops s ⟨some d, op, ty, p, af, g⟩ = some true := by rfl) (hdn : Nat.blt d n = true := by rfl) :
    WD P ro n E ops Q T oS fS dl (fuel + 1) l ds s os fs := let ⟨v, hv, hy⟩ := hy; WD.takeP i hi hc hy (h v hv) hw hdn
/-- One whose guard says no. -/
theorem WD.off (i : Nat) {d : Nat} {op : Op} {ty : TypeId} {p : String} {af : Array Edge} {g : Option (Nat × Bool)} (hi : ops[i]? = some ⟨some d, op, ty, p, af, g⟩) (hc : takeTP T l i = true)
    (hw : wantS ops s ⟨some d, op, ty, p, af, g⟩ = some false) (h : WD P ro n E ops Q T oS fS dl fuel (l.set i true) ds ((d, undef) :: s) os fs) (hdn : Nat.blt d n = true := by rfl) :
    WD P ro n E ops Q T oS fS dl (fuel + 1) l ds s os fs := fun hT hcl hin a w r => by
  subst hT
  simp only [takeTP, Bool.and_eq_true] at hc
  obtain ⟨⟨h1, h2⟩, h3⟩ := hc
  rw [rtab_some hi] at h3
  refine AnyL_firstP hi h1 (fun c a w => panic_put c a w) fuel l a w (fun j hj => List.all_eq_true.1 h3 j hj) hcl h2
    (.inr ⟨wantS_spec hw r.ag, rfl⟩) ?_
  exact h rfl (hcl.set h2) hin _ _ ⟨r.ag.put (by simpa [Nat.blt_eq] using hdn) _, r.st⟩

def Fork (P : Program) (ro : Option Nat) (n : Nat) (E : Env) (ops : Array Oper) (Q : SQ) (T : Bool × List (List Nat × List Nat)) (oS : List Res) (fS : List Frag) (dl : List Nat) (fuel : Nat) (l : List Bool) (i : Nat) : SK := fun ds s os fs =>
  ∀ o, ops[i]? = some o → wantS ops s o = some true ∧ OpS P ro n E Q o (fun ds s os fs => Incl oS os fS fs ∧ WD P ro n E ops Q T oS fS dl fuel (l.set i true) ds s os fs) ds s os fs
theorem WD.all {rs : List Nat} (hr : readyT T.2 l = rs) (hne : rs ≠ []) (h : ∀ i ∈ rs, Fork P ro n E ops Q T oS fS dl fuel l i ds s os fs) : WD P ro n E ops Q T oS fS dl (fuel + 1) l ds s os fs := fun hT hcl hin a w r => by
  subst hT
  have he := ready_eq (ops := ops) l
  rw [hr] at he
  refine ⟨fun h0 => absurd (he ▸ h0) hne, fun i hi => ?_⟩
  rw [he] at hi
  have hlt : i < ops.size ∧ readyAt (rtab ops).2 l i = true := by
    rw [← hr] at hi
    unfold readyT at hi
    rw [List.mem_filter, List.mem_range, rtab_len] at hi
    exact hi
  have ho : ops[i]? = some ops[i] := Array.getElem?_eq_getElem hlt.1
  obtain ⟨hw, hop⟩ := h i hi _ ho
  unfold wpOpIn
  rw [ho]
  simp only
  rw [wantS_spec hw r.ag]
  simp only [if_true]
  refine Oper.wpIn_mono (fun a' w' hk => ?_) (hop a w r)
  obtain ⟨ds', s', os', fs', ⟨hin', hk⟩, hr'⟩ := hk
  refine ⟨fun _ _ => hin'.hold hr'.hold, ?_⟩
  have e : l.toArray.setIfInBounds i true = (l.set i true).toArray := by simp
  rw [e]
  exact hk rfl (hcl.set hlt.2) hin' a' w' hr'
theorem WD.one (i : Nat) {o : Oper} (hr : readyT T.2 l = [i]) (ho : ops[i]? = some o) (h : OpS P ro n E Q o (fun ds s os fs => Incl oS os fS fs ∧ WD P ro n E ops Q T oS fS dl fuel (l.set i true) ds s os fs) ds s os fs) (hw : wantS ops s o = some true := by rfl) :
    WD P ro n E ops Q T oS fS dl (fuel + 1) l ds s os fs :=
  WD.all hr (by simp) fun k hk o' ho' => by
    obtain rfl : k = i := by simpa using hk
    rw [ho] at ho'; cases ho'
    exact ⟨hw, h⟩
theorem WD.two (i j : Nat) {o o2 : Oper} (hr : readyT T.2 l = [i, j]) (ho : ops[i]? = some o) (ho2 : ops[j]? = some o2) (hw : wantS ops s o = some true) (hw2 : wantS ops s o2 = some true)
    (h : OpS P ro n E Q o (fun ds s os fs => Incl oS os fS fs ∧ WD P ro n E ops Q T oS fS dl fuel (l.set i true) ds s os fs) ds s os fs)
    (h2 : OpS P ro n E Q o2 (fun ds s os fs => Incl oS os fS fs ∧ WD P ro n E ops Q T oS fS dl fuel (l.set j true) ds s os fs) ds s os fs) :
    WD P ro n E ops Q T oS fS dl (fuel + 1) l ds s os fs :=
  WD.all hr (by simp) fun k hk o' ho' => by
    rcases List.mem_cons.1 hk with rfl | hk
    · rw [ho] at ho'; cases ho'
      exact ⟨hw, h⟩
    · obtain rfl : k = j := by simpa using hk
      rw [ho2] at ho'; cases ho'
      exact ⟨hw2, h2⟩
theorem WD.done (hr : readyT T.2 l = []) (h : Q .normal ds s os fs) : WD P ro n E ops Q T oS fS dl fuel l ds s os fs := fun hT hcl hin a w r => by
  subst hT
  have he := ready_eq (ops := ops) l
  rw [hr] at he
  have hl : lift n E Q .normal a w := ⟨ds, s, os, fs, h, r, fun ch h => by cases h⟩
  cases fuel with
  | zero => exact ⟨he, hl⟩
  | succ k => exact ⟨fun _ => hl, by rw [he]; simp⟩
/-- From here on what was known at the region's begin isn't asked for any more. -/
theorem AnyL_sw {Q' : Exit → Act → World → Prop} {S S' : World → Prop} : ∀ (fuel : Nat) (l : List Bool) (a : Act) (w : World), (∀ j, j < ops.size → l.getD j false = true ∨ j ∈ dl) → AnyL P ro ops Q' S' [] fuel l.toArray a w → AnyL P ro ops Q' S dl fuel l.toArray a w
  | 0, _, _, _, _, h => h
  | fuel + 1, l, a, w, hall, h => ⟨h.1, fun i hi => by
      have hi2 := h.2 i hi
      rw [ready_eq] at hi
      unfold readyT at hi
      rw [List.mem_filter, List.mem_range, rtab_len] at hi
      have hun : l.getD i false = false := by
        have := hi.2; unfold readyAt at this; rw [Bool.and_eq_true] at this
        have h1 := this.1
        rw [List.getD_eq_getElem?_getD] at h1 ⊢
        cases hq : l[i]? with
        | none => rfl
        | some b => rw [hq] at h1; simpa using h1
      have hd : i ∈ dl := (hall i hi.1).resolve_left (by rw [hun]; simp)
      refine wpOpIn_mono (fun a' w' h' => ⟨fun hn => absurd hd hn, ?_⟩) hi2
      have e : l.toArray.setIfInBounds i true = (l.set i true).toArray := by simp
      rw [e] at h' ⊢
      refine AnyL_sw fuel _ a' w' (fun j hj => ?_) h'.2
      rw [getD_set]
      split
      · exact .inl rfl
      · exact hall j hj⟩
theorem WD.sw (hall : ((List.range T.2.length).all fun j => l.getD j false || dl.contains j) = true) (h : WD P ro n E ops Q T [] [] [] fuel l ds s os fs) : WD P ro n E ops Q T oS fS dl fuel l ds s os fs := fun hT hcl hin a w r => by
  subst hT
  refine AnyL_sw fuel l a w (fun j hj => ?_) (h rfl hcl (Incl.none _ _) a w r)
  have := List.all_eq_true.1 hall j (List.mem_range.2 (by rw [rtab_len]; exact hj))
  simpa using this
end
end Go.Proofs.Sep
