/- Texts of this proof, one behind another. -/
import Derived.Test.YtlimglpjpcfpdaaGreatDoorM4
set_option linter.unusedVariables false
set_option linter.unusedSimpArgs false
section
open Go Mk
open Go.ChangeShapes Go.WideShapes Go.ChangeAt Go.RowKit
namespace Go.Proofs.YtlimglpjpcfpdaaGreatDoor
theorem u3:joinedFacts Tryz.prog 4 Tryz.f4 Rows.queryRoundTripSpec Rows.queryRoundTripRow=true:=by kernel_rfl
end Go.Proofs.YtlimglpjpcfpdaaGreatDoor
end
