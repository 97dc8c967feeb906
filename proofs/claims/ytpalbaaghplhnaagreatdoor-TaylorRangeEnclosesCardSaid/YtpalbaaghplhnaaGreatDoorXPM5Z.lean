/- TaylorRangeEncloses holds: for every input the call returns true, and each argument reads as zao; conditions: none. -/
import Derived.Test.YtpalbaaghplhnaaGreatDoorRBM5Z
set_option linter.unusedVariables false
set_option linter.unusedSimpArgs false
namespace Go.Proofs.YtpalbaaghplhnaaGreatDoor
theorem rangeEncloses : Rows.TaylorRangeEnclosesCardSaid := Go.Ab.cardM5
end Go.Proofs.YtpalbaaghplhnaaGreatDoor
#print axioms Go.Proofs.YtpalbaaghplhnaaGreatDoor.rangeEncloses
