/- TaylorConstructorsMatchReference holds: for every input the call returns true, and each argument reads as zam; conditions: none. -/
import Derived.Test.YtpalbaaghplhnaaGreatDoorRBM2Z
set_option linter.unusedVariables false
set_option linter.unusedSimpArgs false
namespace Go.Proofs.YtpalbaaghplhnaaGreatDoor
theorem constructorsMatchReference : Rows.TaylorConstructorsMatchReferenceCardSaid := Go.Ab.cardM2
end Go.Proofs.YtpalbaaghplhnaaGreatDoor
#print axioms Go.Proofs.YtpalbaaghplhnaaGreatDoor.constructorsMatchReference
