/- The law EditMatchesReference holds. -/
import Derived.Test.YtgkmheobocnenaaGreatVa06
set_option linter.unusedSimpArgs false
set_option linter.unusedVariables false
set_option linter.unusedSectionVars false
set_option linter.unnecessarySimpa false
namespace Go.Proofs.YtgkmheobocnenaaGreat
theorem editMatchesReference_holds : Rows.EditMatchesReferenceSaid :=
  OpenClaim.holds_of_wide 3 Tryz.f3 rfl rfl rfl rfl rfl rfl rfl ⟨rfl, rfl, rfl, rfl, rfl⟩ rfl rfl rfl rfl rfl editMatchesReferenceRow.named Tryz.func3 editMatchesReferenceRow.closed editMatchesReferenceRow.inst editMatchesReferenceRow.wrap
    (fun os started H enc _ => editMatchesReferenceRow.lifted os started H enc)
#print axioms editMatchesReference_holds
end Go.Proofs.YtgkmheobocnenaaGreat
