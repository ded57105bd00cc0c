/- The law EditInverts holds. -/
import Derived.Test.YtgkmheobocnenaaGreatVa06
set_option linter.unusedSimpArgs false
set_option linter.unusedVariables false
set_option linter.unusedSectionVars false
set_option linter.unnecessarySimpa false
namespace Go.Proofs.YtgkmheobocnenaaGreat
theorem editInverts_holds : Rows.EditInvertsSaid :=
  OpenClaim.holds_of_wide 5 Tryz.f5 rfl rfl rfl rfl rfl rfl rfl ⟨rfl, rfl, rfl, rfl, rfl⟩ rfl rfl rfl rfl rfl editInvertsRow.named Tryz.func5 editInvertsRow.closed editInvertsRow.inst editInvertsRow.wrap
    (fun os started H enc _ => editInvertsRow.lifted os started H enc)
#print axioms editInverts_holds
end Go.Proofs.YtgkmheobocnenaaGreat
