/- The law EditEquations holds. -/
import Derived.Test.YtgkmheobocnenaaGreatVa05
set_option linter.unusedSimpArgs false
set_option linter.unusedVariables false
set_option linter.unusedSectionVars false
set_option linter.unnecessarySimpa false
namespace Go.Proofs.YtgkmheobocnenaaGreat
theorem editEquations_holds : Rows.EditEquationsSaid :=
  OpenClaim.holds_of_wide 7 Tryz.f7 rfl rfl rfl rfl rfl rfl rfl ⟨rfl, rfl, rfl, rfl, rfl⟩ rfl rfl rfl rfl rfl editEq.named Tryz.func7 editEq.closed editEq.inst editEq.wrap
    (fun os started H enc _ => editEq.lifted os started H enc)
#print axioms editEquations_holds
end Go.Proofs.YtgkmheobocnenaaGreat
