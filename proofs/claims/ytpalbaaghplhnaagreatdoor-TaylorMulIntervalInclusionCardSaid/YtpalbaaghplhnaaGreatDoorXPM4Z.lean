/- TaylorMulIntervalInclusion holds: for every input the call returns true, and each argument reads as zan; conditions: none. -/
import Derived.Test.YtpalbaaghplhnaaGreatDoorRBM4Z
set_option linter.unusedVariables false
set_option linter.unusedSimpArgs false
namespace Go.Proofs.YtpalbaaghplhnaaGreatDoor
theorem mulIntervalInclusion : Rows.TaylorMulIntervalInclusionCardSaid := Go.Ab.cardM4
end Go.Proofs.YtpalbaaghplhnaaGreatDoor
#print axioms Go.Proofs.YtpalbaaghplhnaaGreatDoor.mulIntervalInclusion
