/- TaylorAlgebra holds: for every input the call returns true, and each argument reads as zap; conditions: none. -/
import Derived.Test.YtpalbaaghplhnaaGreatDoorRBM7Z
set_option linter.unusedVariables false
set_option linter.unusedSimpArgs false
namespace Go.Proofs.YtpalbaaghplhnaaGreatDoor
theorem algebra : Rows.TaylorAlgebraCardSaid := Go.Ab.cardM7
end Go.Proofs.YtpalbaaghplhnaaGreatDoor
#print axioms Go.Proofs.YtpalbaaghplhnaaGreatDoor.algebra
