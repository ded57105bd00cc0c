/- The law EditValid holds. -/
import Derived.Test.YtgkmheobocnenaaGreatVa05
set_option linter.unusedSimpArgs false
set_option linter.unusedVariables false
set_option linter.unusedSectionVars false
set_option linter.unnecessarySimpa false
namespace Go.Proofs.YtgkmheobocnenaaGreat
theorem editValid_holds : Rows.EditValidSaid :=
  OpenClaim.holds_of_wide 4 Tryz.f4 rfl rfl rfl rfl rfl rfl rfl ⟨rfl, rfl, rfl, rfl, rfl⟩ rfl rfl rfl rfl rfl editValidRow.named Tryz.func4 editValidRow.closed editValidRow.inst editValidRow.wrap
    (fun os started H enc _ => editValidRow.lifted os started H enc)
#print axioms editValid_holds
end Go.Proofs.YtgkmheobocnenaaGreat
