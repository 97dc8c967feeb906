/- TaylorTruncatePreservesValues holds: for every input the call returns true, and each argument reads as zap; conditions: none. -/
import Derived.Test.YtpalbaaghplhnaaGreatDoorRBM6Z
set_option linter.unusedVariables false
set_option linter.unusedSimpArgs false
namespace Go.Proofs.YtpalbaaghplhnaaGreatDoor
theorem truncatePreservesValues : Rows.TaylorTruncatePreservesValuesCardSaid := Go.Ab.cardM6
end Go.Proofs.YtpalbaaghplhnaaGreatDoor
#print axioms Go.Proofs.YtpalbaaghplhnaaGreatDoor.truncatePreservesValues
