/- TaylorInclusion holds: for every input the call returns true, and each argument reads as zan; conditions: none. -/
import Derived.Test.YtpalbaaghplhnaaGreatDoorRBM3Z
set_option linter.unusedVariables false
set_option linter.unusedSimpArgs false
namespace Go.Proofs.YtpalbaaghplhnaaGreatDoor
theorem inclusion : Rows.TaylorInclusionCardSaid := Go.Ab.cardM3
end Go.Proofs.YtpalbaaghplhnaaGreatDoor
#print axioms Go.Proofs.YtpalbaaghplhnaaGreatDoor.inclusion
