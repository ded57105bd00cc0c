/- The law EditAll holds. -/
import Derived.Test.YtgkmheobocnenaaGreatVa05
set_option linter.unusedSimpArgs false
set_option linter.unusedVariables false
set_option linter.unusedSectionVars false
set_option linter.unnecessarySimpa false
namespace Go.Proofs.YtgkmheobocnenaaGreat
theorem editAll_holds : Rows.EditAllSaid :=
  OpenClaim.holds_of_wide 8 Tryz.f8 rfl rfl rfl rfl rfl rfl rfl ⟨rfl, rfl, rfl, rfl, rfl⟩ rfl rfl rfl rfl rfl editAllRow.named Tryz.func8 editAllRow.closed editAllRow.inst editAllRow.wrap
    (fun os started H enc _ => editAllRow.lifted os started H enc)
#print axioms editAll_holds
end Go.Proofs.YtgkmheobocnenaaGreat
