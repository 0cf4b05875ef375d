/- Type assertions. -/
import Derived.Test.YtpnhedlciamegaaDoorSepQ
set_option linter.all false
set_option linter.unnecessarySimpa false
set_option linter.deprecated false
set_option linter.unusedVariables false
set_option linter.unusedSimpArgs false
namespace Go.Proofs.Sep
open Go Go.RowKit
section
variable {P : Program} {s : Sto} {H : World → Prop}
theorem y_assertNil {x : Operand} {t a : TypeId} {z : Value} {sz by_ : Nat} {d : TypeDesc} (hx : ev s x = some .nilIface) (ha : P.underlying a = some d) (hni : ∀ ms, d ≠ .interface ms) (hz : zeroIs P a z sz by_) : Y P H s (.typeAssert x t a true) (.tuple #[z, .bool false]) := fun o ρ w ho h _ => by
  obtain ⟨i0, hi, he⟩ := Option.map_eq_some_iff.1 hz
  simp only [Prod.mk.injEq] at he
  cases d <;> first | exact absurd rfl (hni _) | simp [execOp, ho, h x _ hx, Instr.typeAssert, run_underlying ha, zeroValue, typeInfo, hi, he.1]
theorem y_assertYes {x : Operand} {t a : TypeId} {v : Value} {d : TypeDesc} (hx : ev s x = some (.iface a v)) (ha : P.underlying a = some d) (hni : ∀ ms, d ≠ .interface ms) : Y P H s (.typeAssert x t a true) (.tuple #[v, .bool true]) := fun o ρ w ho h _ => by
  cases d <;> first | exact absurd rfl (hni _) | simp [execOp, ho, h x _ hx, Instr.typeAssert, run_underlying ha]
end
end Go.Proofs.Sep
