/- TaylorMatchesReference holds: for every input the call returns true, and each argument reads as zam; conditions: none. -/
import Derived.Test.YtpalbaaghplhnaaGreatDoorRBM1Z
set_option linter.unusedVariables false
set_option linter.unusedSimpArgs false
namespace Go.Proofs.YtpalbaaghplhnaaGreatDoor
theorem matchesReference : Rows.TaylorMatchesReferenceCardSaid := Go.Ab.cardM1
end Go.Proofs.YtpalbaaghplhnaaGreatDoor
#print axioms Go.Proofs.YtpalbaaghplhnaaGreatDoor.matchesReference
