/- Texts of this proof, one behind another. -/
import Derived.Test.YtlmiakjbogojgaaGreatDoorM5
set_option linter.unusedVariables false
set_option linter.unusedSimpArgs false
section
open Go Mk
open Go.ChangeShapes Go.WideShapes Go.ChangeAt Go.RowKit
namespace Go.Proofs.YtlmiakjbogojgaaGreatDoor
theorem CZ:joinedFacts Tryz.prog 4 Tryz.f4 Rows.affinityNearestSpec Rows.affinityNearestRow=true:=by kernel_rfl
end Go.Proofs.YtlmiakjbogojgaaGreatDoor
end
