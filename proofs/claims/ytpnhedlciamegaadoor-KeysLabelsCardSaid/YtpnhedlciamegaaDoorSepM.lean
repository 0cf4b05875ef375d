/- More of numbers and texts; what two ways come to. -/
import Derived.Test.YtpnhedlciamegaaDoorSepL
set_option linter.all false
set_option linter.unnecessarySimpa false
set_option linter.deprecated false
set_option linter.unusedVariables false
set_option linter.unusedSimpArgs false
namespace Go.Proofs.Sep
open Go Go.RowKit
section
variable {P : Program} {ro : Option Nat} {n : Nat} {E : Env} {Q : SQ} {K : SK} {ds : List Deferred} {s : Sto} {os : List Res} {fs : List Frag}
variable {H : World → Prop} {d : Nat} {ty : TypeId} {p : String} {af : Array Edge} {g : Option (Nat × Bool)}

section
variable {x y : Operand} {t u : TypeId} {k : IntKind} {i j : Nat}
theorem y_leqN (hx : ev s x = some (.int k (i : Int))) (hy : ev s y = some (.int k (j : Int))) : Y P H s (.binOp .leq t x y u) (.bool (decide (i ≤ j))) := by
  have := y_leq (P := P) (H := H) (t := t) (u := u) hx hy
  have e : decide ((i : Int) ≤ j) = decide (i ≤ j) := by simp
  rwa [e] at this
theorem y_gtrN (hx : ev s x = some (.int k (i : Int))) (hy : ev s y = some (.int k (j : Int))) : Y P H s (.binOp .gtr t x y u) (.bool (decide (j < i))) := by
  have := y_gtr (P := P) (H := H) (t := t) (u := u) hx hy
  have e : decide ((j : Int) < i) = decide (j < i) := by simp
  rwa [e] at this
theorem y_eqlN (hx : ev s x = some (.int k (i : Int))) (hy : ev s y = some (.int k (j : Int))) : Y P H s (.binOp .eql t x y u) (.bool (decide (i = j))) := by
  have := y_eql (P := P) (H := H) (t := t) (u := u) hx hy
  have e : decide ((i : Int) = j) = decide (i = j) := by
    rw [decide_eq_decide]
    omega
  rwa [e] at this
theorem y_neqN (hx : ev s x = some (.int k (i : Int))) (hy : ev s y = some (.int k (j : Int))) : Y P H s (.binOp .neq t x y u) (.bool (decide (i ≠ j))) := by
  have := y_neq (P := P) (H := H) (t := t) (u := u) hx hy
  have e : decide ((i : Int) ≠ j) = decide (i ≠ j) := by
    rw [decide_eq_decide]
    omega
  rwa [e] at this
theorem y_sindexN {a : List UInt8} (hx : ev s x = some (str a)) (hy : ev s y = some (.int .i64 (i : Int))) (ht : P.underlying t = some .string) (hi : i < a.length) : Y P H s (.index t x y) (byte (a.getD i 0)) :=
  y_sindex hx hy ht (by omega) (c := a.getD i 0) (by rw [Int.toNat_natCast]; simp [List.getD_eq_getElem?_getD, List.getElem?_eq_getElem hi])
theorem y_convS {src dst : TypeId} {a : List UInt8} (hx : ev s x = some (str a)) (hs : P.underlying src = some .string) (ht : P.underlying dst = some .string) : Y P H s (.convert src dst x) (str a) := fun o ρ w ho h hH => by
  simp [execOp, ho, h x _ hx, convert, str, run_underlying hs, run_underlying ht]
end

/-- Two ways come to one state: what is behind is walked once. -/
theorem W.seqI {c1 c2 : Code} {ι : Type} (G : ι → Prop) (S : ι → Sto) (O : ι → List Res) (F : ι → List Frag)
    (h1 : W P ro n E c1 (Then (fun ds' s os fs => ∃ i, G i ∧ At ds (S i) (O i) (F i) ds' s os fs) Q) ds s os fs)
    (h2 : ∀ i, G i → W P ro n E c2 Q ds (S i) (O i) (F i)) : W P ro n E (c1.seq c2) Q ds s os fs :=
  W.seq (W.mono h1 fun e ds' s os fs hq => by
    cases e with
    | normal => obtain ⟨i, gi, ha⟩ := hq; exact W.ofAt ha (h2 i gi)
    | _ => exact hq)
end
end Go.Proofs.Sep
