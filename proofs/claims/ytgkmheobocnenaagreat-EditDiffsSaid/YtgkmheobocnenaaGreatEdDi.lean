/- The law EditDiffs holds. -/
import Derived.Test.YtgkmheobocnenaaGreatVa07
set_option linter.unusedSimpArgs false
set_option linter.unusedVariables false
set_option linter.unusedSectionVars false
set_option linter.unnecessarySimpa false
namespace Go.Proofs.YtgkmheobocnenaaGreat
theorem editDiffs_holds : Rows.EditDiffsSaid :=
  OpenClaim.holds_of_wide 9 Tryz.f9 rfl rfl rfl rfl rfl rfl rfl ⟨rfl, rfl, rfl, rfl, rfl⟩ rfl rfl rfl rfl rfl editDiffsRow.named Tryz.func9 editDiffsRow.closed editDiffsRow.inst editDiffsRow.wrap
    (fun os started H enc _ => editDiffsRow.lifted os started H enc)
#print axioms editDiffs_holds
end Go.Proofs.YtgkmheobocnenaaGreat
