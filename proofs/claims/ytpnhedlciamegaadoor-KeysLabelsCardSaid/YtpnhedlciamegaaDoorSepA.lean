/- The symbolic state of a function's body (slots, blocks of its own, read-only fragments of the heap) and the rules of its code. -/
import Derived.TacticsIn
import Derived.RangeFuncIn
import Derived.RangeFuncLeaves
import Derived.OrdersIn
import Derived.OrdersHeld
import Derived.Maps.AppendAt
import Derived.Below
import Derived.WalkKit
import Derived.RangeFuncRecord
import Derived.Lib.FrozenHead2
set_option linter.all false
set_option linter.unnecessarySimpa false
set_option linter.deprecated false
set_option linter.unusedVariables false
set_option linter.unusedSimpArgs false
namespace Go.Proofs.Sep
open Go Go.RowKit

/-! ### Slots -/
abbrev Sto := List (Nat × Value)
def Sto.get : Sto → Nat → Option Value
  | [], _ => none
  | (k, v) :: r, t => bif Nat.beq k t then some v else Sto.get r t
def ev (s : Sto) : Operand → Option Value
  | .tmp t => Sto.get s t
  | .const v => some v
  | .global g => some (.pointer (some ⟨g, 0, none⟩))
  | .func f => some (.func (.func f) #[] #[])
structure Ag (n : Nat) (ds : List Deferred) (a : Act) (s : Sto) : Prop where
  size : a.tmps.size = n
  defers : a.defers = ds
  vals : ∀ t v, Sto.get s t = some v → a.tmps[t]? = some v

theorem get_cons (d : Nat) (v : Value) (s : Sto) (t : Nat) : Sto.get ((d, v) :: s) t = if d = t then some v else Sto.get s t := by
  by_cases h : d = t
  · subst h; simp [Sto.get]
  · have : Nat.beq d t = false := by
      cases hb : Nat.beq d t with
      | false => rfl
      | true => exact absurd (Nat.eq_of_beq_eq_true hb) h
    simp [Sto.get, this, h]

theorem Ag.eval {n : Nat} {ds : List Deferred} {a : Act} {s : Sto} (h : Ag n ds a s) {x : Operand} {v : Value} (hx : ev s x = some v) : a.eval x = v := by
  cases x with
  | tmp t => have := h.vals t v hx; simp [Act.eval, Array.getD_eq_getD_getElem?, this]
  | const c => simpa [ev, Act.eval] using hx
  | global g => simpa [ev, Act.eval] using hx
  | func f => simpa [ev, Act.eval] using hx

theorem Ag.put {n : Nat} {ds : List Deferred} {a : Act} {s : Sto} (h : Ag n ds a s) {d : Nat} (hd : d < n) (v : Value) : Ag n ds (a.put (some d) v) ((d, v) :: s) := by
  refine ⟨by simp [Act.put, h.size], h.defers, fun t u hu => ?_⟩
  rw [get_cons] at hu
  simp only [Act.put]
  by_cases e : d = t
  · subst e
    rw [if_pos rfl] at hu
    rw [Array.getElem?_setIfInBounds_self_of_lt (by rw [h.size]; exact hd)]
    exact hu
  · rw [if_neg e] at hu
    rw [Array.getElem?_setIfInBounds_ne e]
    exact h.vals t u hu

def Le : Sto → Sto → Prop
  | [], _ => True
  | (k, v) :: r, s => Sto.get s k = some v ∧ Le r s
theorem Le.get {s' s : Sto} (h : Le s' s) {t : Nat} {v : Value} (hv : Sto.get s' t = some v) : Sto.get s t = some v := by
  induction s' with
  | nil => simp [Sto.get] at hv
  | cons p r ih =>
    obtain ⟨d, u⟩ := p
    obtain ⟨h1, h2⟩ := h
    rw [get_cons] at hv
    by_cases e : d = t
    · subst e; rw [if_pos rfl] at hv; cases hv; exact h1
    · rw [if_neg e] at hv; exact ih h2 hv
theorem Ag.sub {n : Nat} {ds : List Deferred} {a : Act} {s s' : Sto} (h : Ag n ds a s) (hs : Le s' s) : Ag n ds a s' :=
  ⟨h.size, h.defers, fun t v hv => h.vals t v (hs.get hv)⟩

/-! ### The heap -/
abbrev Frag := Nat → Option Obj
def Sub (φ : Frag) (w : World) : Prop := ∀ b o, φ b = some o → w.heap[b]? = some o

def byte (c : UInt8) : Value := .int .u8 (c.toNat : Int)
/-- What a body owns: a block known whole; a row behind a slice (its elements, each a list of cells; spare room unknown); a row of bytes, a head of which may be frozen. -/
inductive Res where
  | blk (b : Nat) (o : Obj)
  | row (v : Value) (e : TypeId) (sz : Nat) (ess : List (List Value))
  | buf (v : Value) (e : TypeId) (l : List UInt8)
def Res.foot : Res → Option Nat
  | .blk b _ => some b
  | .row v _ _ _ => v.ownBlock
  | .buf v _ _ => v.ownBlock
def Res.holds (w : World) : Res → Prop
  | .blk b o => w.heap[b]? = some o
  | .row v e sz ess => w.ownsRow 0 e sz v ess.length ess.flatten ∧ ∀ x ∈ ess, x.length = sz
  | .buf v e l => w.ownsRowF 0 e 1 v l.length (l.map byte)

theorem Res.foot_lt {w : World} {r : Res} (h : r.holds w) {b : Nat} (hb : r.foot = some b) : b < w.heap.size := by
  cases r with
  | blk b' o => simp only [Res.foot, Option.some.injEq] at hb; subst hb; exact (Array.getElem?_eq_some_iff.1 h).1
  | row v e sz ess => exact (h.1.lt b hb).2
  | buf v e l => exact (h.lt b hb).2

theorem Res.holds_of_same {w w' : World} {r : Res} (h : r.holds w) (hs : ∀ b, r.foot = some b → w'.heap[b]? = w.heap[b]?) : r.holds w' := by
  cases r with
  | blk b o => exact (hs b rfl).trans h
  | row v e sz ess =>
    refine ⟨⟨h.1.1, ?_⟩, h.2⟩
    rcases h.1.2 with hn | ⟨g, cap, cur, rfl, hb, hg, rest⟩
    · exact .inl hn
    · exact .inr ⟨g, cap, cur, rfl, hb, (hs g rfl).trans hg, rest⟩
  | buf v e l =>
    refine ⟨h.1, ?_⟩
    rcases h.2 with hn | ⟨g, cap, cur, fz, rfl, hb, hg, rest⟩
    · exact .inl hn
    · exact .inr ⟨g, cap, cur, fz, rfl, hb, (hs g rfl).trans hg, rest⟩

structure Keep (S : List Nat) (w w' : World) : Prop where
  os : w'.os = w.os
  tape : w'.tape = w.tape
  output : w'.output = w.output
  size : w.heap.size ≤ w'.heap.size
  block : ∀ i, i < w.heap.size → i ∉ S → w'.heap[i]? = w.heap[i]?
theorem Keep.refl (S : List Nat) (w : World) : Keep S w w := ⟨rfl, rfl, rfl, Nat.le_refl _, fun _ _ _ => rfl⟩
theorem Keep.trans {S : List Nat} {a b c : World} (h : Keep S a b) (k : Keep S b c) : Keep S a c :=
  ⟨k.os.trans h.os, k.tape.trans h.tape, k.output.trans h.output, Nat.le_trans h.size k.size,
    fun i hi hs => (k.block i (Nat.lt_of_lt_of_le hi h.size) hs).trans (h.block i hi hs)⟩
/-- A step that writes blocks of T alone, each of S or newer than a. -/
theorem Keep.then {S T : List Nat} {a b c : World} (h : Keep S a b) (k : Keep T b c) (ht : ∀ i ∈ T, a.heap.size ≤ i ∨ i ∈ S) : Keep S a c :=
  ⟨k.os.trans h.os, k.tape.trans h.tape, k.output.trans h.output, Nat.le_trans h.size k.size, fun i hi hs =>
    (k.block i (Nat.lt_of_lt_of_le hi h.size) (fun hm => (ht i hm).elim (fun h1 => by omega) hs)).trans (h.block i hi hs)⟩
theorem Keep.below {w w' : World} (h : Keep [] w w') : Below w.heap.size w w' := ⟨h.os, h.tape, h.output, h.size, fun k hk => h.block k hk (by simp)⟩
theorem Keep.of_below {w w' : World} (h : Below w.heap.size w w') : Keep [] w w' := ⟨h.os, h.tape, h.output, h.size, fun k hk _ => h.block k hk⟩
theorem Keep.mono {S T : List Nat} {w w' : World} (h : Keep S w w') (hs : ∀ i ∈ S, i ∈ T) : Keep T w w' := ⟨h.os, h.tape, h.output, h.size, fun i hi hn => h.block i hi (fun hm => hn (hs i hm))⟩

theorem Sub.keep {φ : Frag} {w w' : World} {S : List Nat} (h : Sub φ w) (k : Keep S w w') (hs : ∀ b ∈ S, φ b = none) : Sub φ w' := fun b o hb =>
  (k.block b (Array.getElem?_eq_some_iff.1 (h b o hb)).1 (fun hm => by rw [hs b hm] at hb; cases hb)).trans (h b o hb)

def Away (r r' : Res) : Prop := ∀ b, r.foot = some b → r'.foot ≠ some b
theorem Away.symm {r r' : Res} (h : Away r r') : Away r' r := fun b hb hb' => h b hb' hb

/-- The state of the heap, as a body knows it: w0 the world in which it began, S the blocks that came in to be written, F0 the fragments that came in. -/
structure St (w0 : World) (S : List Nat) (F0 : List Frag) (w : World) (os : List Res) (fs : List Frag) : Prop where
  keep : Keep S w0 w
  holds : ∀ r ∈ os, r.holds w
  sub : ∀ φ ∈ fs, Sub φ w
  apart : os.Pairwise Away
  away : ∀ r ∈ os, ∀ b, r.foot = some b → (∀ φ ∈ fs, φ b = none) ∧ (w0.heap.size ≤ b ∨ b ∈ S)
  orig : ∀ φ ∈ fs, ∀ b, φ b ≠ none → w0.heap.size ≤ b ∨ b ∈ S ∨ ∃ φ0 ∈ F0, φ0 b ≠ none

section
variable {w0 : World} {S : List Nat} {F0 : List Frag} {w : World} {os : List Res} {fs : List Frag}

theorem St.perm (h : St w0 S F0 w os fs) {os' : List Res} (hp : os.Perm os') : St w0 S F0 w os' fs :=
  ⟨h.keep, fun r hr => h.holds r (hp.mem_iff.2 hr), h.sub, h.apart.perm hp (fun h => h.symm), fun r hr => h.away r (hp.mem_iff.2 hr), h.orig⟩

theorem St.drop (h : St w0 S F0 w os fs) {os' : List Res} {fs' : List Frag} (ho : os'.Sublist os) (hf : ∀ φ ∈ fs', φ ∈ fs) : St w0 S F0 w os' fs' :=
  ⟨h.keep, fun r hr => h.holds r (ho.subset hr), fun φ hφ => h.sub φ (hf φ hφ), h.apart.sublist ho,
    fun r hr b hb => ⟨fun φ hφ => (h.away r (ho.subset hr) b hb).1 φ (hf φ hφ), (h.away r (ho.subset hr) b hb).2⟩, fun φ hφ => h.orig φ (hf φ hφ)⟩

/-- Nothing that is known has turned. -/
theorem St.same (h : St w0 S F0 w os fs) {w' : World} (k : Keep [] w w') : St w0 S F0 w' os fs :=
  ⟨h.keep.then k (by simp), fun r hr => Res.holds_of_same (h.holds r hr) fun b hb => k.block b (Res.foot_lt (h.holds r hr) hb) (by simp),
    fun φ hφ => (h.sub φ hφ).keep k (by simp), h.apart, h.away, h.orig⟩

/-- A new block. -/
theorem St.alloc (h : St w0 S F0 w os fs) (o : Obj) : St w0 S F0 (w.alloc o) (.blk w.heap.size o :: os) fs := by
  have k : Keep [] w (w.alloc o) := ⟨rfl, rfl, rfl, by simp, fun i hi _ => Below.heap_alloc w o i hi⟩
  have h' := h.same k
  refine ⟨h'.keep, ?_, h'.sub, ?_, ?_, h'.orig⟩
  · intro r hr
    rcases List.mem_cons.1 hr with rfl | hr
    · exact heap_alloc_new w o
    · exact h'.holds r hr
  · refine List.Pairwise.cons (fun r hr b hb hb' => ?_) h.apart
    have hlt := Res.foot_lt (h.holds r hr) hb'
    simp only [Res.foot, Option.some.injEq] at hb
    omega
  · intro r hr b hb
    rcases List.mem_cons.1 hr with rfl | hr
    · simp only [Res.foot, Option.some.injEq] at hb
      subst hb
      refine ⟨fun φ hφ => ?_, .inl h.keep.size⟩
      cases hq : φ w.heap.size with
      | none => rfl
      | some o' => have := (Array.getElem?_eq_some_iff.1 (h.sub φ hφ _ _ hq)).1; omega
    · exact h.away r hr b hb

/-- The first resource turns into another one over the same block, nothing else being touched. -/
theorem St.turn {r r' : Res} (h : St w0 S F0 w (r :: os) fs) {w' : World} {T : List Nat} (k : Keep T w w') (hT : ∀ i ∈ T, r.foot = some i) (hr' : r'.holds w')
    (hf : ∀ b, r'.foot = some b → r.foot = some b ∨ w.heap.size ≤ b) : St w0 S F0 w' (r' :: os) fs := by
  have hro := h.away r List.mem_cons_self
  have hTs : ∀ i ∈ T, ∀ r2 ∈ os, r2.foot ≠ some i := fun i hi r2 hr2 => (List.pairwise_cons.1 h.apart).1 r2 hr2 i (hT i hi)
  refine ⟨h.keep.then k fun i hi => (hro i (hT i hi)).2, ?_, fun φ hφ => (h.sub φ hφ).keep k fun b hb => (hro b (hT b hb)).1 φ hφ, ?_, ?_, h.orig⟩
  · intro r2 hr2
    rcases List.mem_cons.1 hr2 with rfl | hr2
    · exact hr'
    · have h2 := h.holds r2 (List.mem_cons_of_mem _ hr2)
      exact Res.holds_of_same h2 fun b hb => k.block b (Res.foot_lt h2 hb) fun hm => hTs b hm r2 hr2 hb
  · refine List.Pairwise.cons (fun r2 hr2 b hb hb2 => ?_) (List.pairwise_cons.1 h.apart).2
    rcases hf b hb with h1 | h1
    · exact (List.pairwise_cons.1 h.apart).1 r2 hr2 b h1 hb2
    · have := Res.foot_lt (h.holds r2 (List.mem_cons_of_mem _ hr2)) hb2
      omega
  · intro r2 hr2 b hb
    rcases List.mem_cons.1 hr2 with rfl | hr2
    · rcases hf b hb with h1 | h1
      · exact hro b h1
      · refine ⟨fun φ hφ => ?_, .inl (Nat.le_trans h.keep.size h1)⟩
        cases hq : φ b with
        | none => rfl
        | some o' => have := (Array.getElem?_eq_some_iff.1 (h.sub φ hφ _ _ hq)).1; omega
    · exact h.away r2 (List.mem_cons_of_mem _ hr2) b hb

/-- The first resource is read-only from here on. -/
def Res.frag (w : World) (r : Res) : Frag := fun b => if r.foot = some b then w.heap[b]? else none
theorem Res.frag_sub (w : World) (r : Res) : Sub (r.frag w) w := fun b o hb => by
  unfold Res.frag at hb
  split at hb
  · exact hb
  · cases hb
theorem St.freeze {r : Res} (h : St w0 S F0 w (r :: os) fs) : St w0 S F0 w os (r.frag w :: fs) := by
  have h' := h.drop (os' := os) (List.sublist_cons_self _ _) (fun φ hφ => hφ)
  refine ⟨h'.keep, h'.holds, ?_, h'.apart, ?_, ?_⟩
  · intro φ hφ
    rcases List.mem_cons.1 hφ with rfl | hφ
    · exact Res.frag_sub w r
    · exact h.sub φ hφ
  · intro r2 hr2 b hb
    refine ⟨fun φ hφ => ?_, (h'.away r2 hr2 b hb).2⟩
    rcases List.mem_cons.1 hφ with rfl | hφ
    · unfold Res.frag
      rw [if_neg fun e => (List.pairwise_cons.1 h.apart).1 r2 hr2 b e hb]
    · exact (h'.away r2 hr2 b hb).1 φ hφ
  · intro φ hφ b hb
    rcases List.mem_cons.1 hφ with rfl | hφ
    · unfold Res.frag at hb
      split at hb
      · rename_i e; exact (h.away r List.mem_cons_self b e).2.imp id .inl
      · exact absurd rfl hb
    · exact h.orig φ hφ b hb
end

/-! ### A function's contract -/
structure Pre (w : World) (rs : List Res) (fs : List Frag) : Prop where
  holds : ∀ r ∈ rs, r.holds w
  sub : ∀ φ ∈ fs, Sub φ w
  apart : rs.Pairwise Away
  away : ∀ r ∈ rs, ∀ b, r.foot = some b → ∀ φ ∈ fs, φ b = none
def foots (rs : List Res) : List Nat := rs.filterMap Res.foot
theorem mem_foots {rs : List Res} {b : Nat} : b ∈ foots rs ↔ ∃ r ∈ rs, r.foot = some b := by simp [foots, List.mem_filterMap]
theorem Pre.st {w : World} {rs : List Res} {fs : List Frag} (h : Pre w rs fs) : St w (foots rs) fs w rs fs :=
  ⟨Keep.refl _ _, h.holds, h.sub, h.apart, fun r hr b hb => ⟨h.away r hr b hb, .inr (mem_foots.2 ⟨r, hr, hb⟩)⟩, fun φ hφ b hb => .inr (.inr ⟨φ, hφ, hb⟩)⟩

def Spec (P : Program) (f : FuncId) (args : Array Value) (rs : List Res) (fs : List Frag) (post : Ending → List Res → List Frag → Prop) : Prop :=
  ∀ w, Pre w rs fs → Calls P f args w fun e w' => ∃ rs' fs', post e rs' fs' ∧ St w (foots rs) fs w' rs' fs'

/-- What becomes of the caller's state: rs handed over, rest kept. -/
theorem St.call {w0 w w' : World} {S : List Nat} {F0 : List Frag} {rs rest rs' : List Res} {fs cs cs' : List Frag}
    (h : St w0 S F0 w (rs ++ rest) fs) (hc : ∀ φ ∈ cs, φ ∈ fs) (k : St w (foots rs) cs w' rs' cs') : St w0 S F0 w' (rs' ++ rest) (cs' ++ fs) := by
  have hap := List.pairwise_append.1 h.apart
  have hrf : ∀ b ∈ foots rs, (∀ φ ∈ fs, φ b = none) ∧ (w0.heap.size ≤ b ∨ b ∈ S) := fun b hb => by
    obtain ⟨r, hr, e⟩ := mem_foots.1 hb
    exact h.away r (List.mem_append_left _ hr) b e
  have hnot : ∀ r2 ∈ rest, ∀ b, r2.foot = some b → b ∉ foots rs := fun r2 h2 b hb hm => by
    obtain ⟨r, hr, e⟩ := mem_foots.1 hm
    exact hap.2.2 r hr r2 h2 b e hb
  have hnew : ∀ r1 ∈ rs', ∀ b, r1.foot = some b → (w.heap.size ≤ b ∨ b ∈ foots rs) := fun r1 h1 b hb => (k.away r1 h1 b hb).2
  have hfr : ∀ b, w.heap.size ≤ b → ∀ φ ∈ fs, φ b = none := fun b hb φ hφ => by
    cases hq : φ b with
    | none => rfl
    | some o' => have := (Array.getElem?_eq_some_iff.1 (h.sub φ hφ _ _ hq)).1; omega
  have hlt : ∀ r2 ∈ rest, ∀ b, r2.foot = some b → b < w.heap.size := fun r2 h2 b hb => Res.foot_lt (h.holds r2 (List.mem_append_right _ h2)) hb
  refine ⟨h.keep.then k.keep fun i hi => (hrf i hi).2, ?_, ?_, ?_, ?_, ?_⟩
  · intro r hr
    rcases List.mem_append.1 hr with hr | hr
    · exact k.holds r hr
    · exact Res.holds_of_same (h.holds r (List.mem_append_right _ hr)) fun b hb => k.keep.block b (hlt r hr b hb) (hnot r hr b hb)
  · intro φ hφ
    rcases List.mem_append.1 hφ with hφ | hφ
    · exact k.sub φ hφ
    · exact (h.sub φ hφ).keep k.keep fun b hb => (hrf b hb).1 φ hφ
  · refine List.pairwise_append.2 ⟨k.apart, hap.2.1, fun r1 h1 r2 h2 b hb hb2 => ?_⟩
    rcases hnew r1 h1 b hb with h3 | h3
    · have := hlt r2 h2 b hb2; omega
    · exact hnot r2 h2 b hb2 h3
  · intro r hr b hb
    rcases List.mem_append.1 hr with hr | hr
    · refine ⟨fun φ hφ => ?_, ?_⟩
      · rcases List.mem_append.1 hφ with hφ | hφ
        · exact (k.away r hr b hb).1 φ hφ
        · rcases hnew r hr b hb with h3 | h3
          · exact hfr b h3 φ hφ
          · exact (hrf b h3).1 φ hφ
      · rcases hnew r hr b hb with h3 | h3
        · exact .inl (Nat.le_trans h.keep.size h3)
        · exact (hrf b h3).2
    · refine ⟨fun φ hφ => ?_, (h.away r (List.mem_append_right _ hr) b hb).2⟩
      rcases List.mem_append.1 hφ with hφ | hφ
      · cases hq : φ b with
        | none => rfl
        | some o' =>
          exfalso
          rcases k.orig φ hφ b (by rw [hq]; simp) with h3 | h3 | ⟨φ0, h4, h5⟩
          · have := hlt r hr b hb; omega
          · exact hnot r hr b hb h3
          · exact h5 ((h.away r (List.mem_append_right _ hr) b hb).1 φ0 (hc φ0 h4))
      · exact (h.away r (List.mem_append_right _ hr) b hb).1 φ hφ
  · intro φ hφ b hb
    rcases List.mem_append.1 hφ with hφ | hφ
    · rcases k.orig φ hφ b hb with h3 | h3 | ⟨φ0, h4, h5⟩
      · exact .inl (Nat.le_trans h.keep.size h3)
      · exact (hrf b h3).2.imp id .inl
      · exact h.orig φ0 (hc φ0 h4) b h5
    · exact h.orig φ hφ b hb

theorem St.pre {w0 w : World} {S : List Nat} {F0 : List Frag} {rs rest : List Res} {fs cs : List Frag}
    (h : St w0 S F0 w (rs ++ rest) fs) (hc : ∀ φ ∈ cs, φ ∈ fs) : Pre w rs cs :=
  ⟨fun r hr => h.holds r (List.mem_append_left _ hr), fun φ hφ => h.sub φ (hc φ hφ), (List.pairwise_append.1 h.apart).1,
    fun r hr b hb φ hφ => (h.away r (List.mem_append_left _ hr) b hb).1 φ (hc φ hφ)⟩

end Go.Proofs.Sep
