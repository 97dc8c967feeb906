/- TaylorVariables holds: for every input the call returns true, and each argument reads as zai; conditions: none. -/
import Derived.Test.YtpalbaaghplhnaaDoorRBM8U
set_option linter.unusedVariables false
set_option linter.unusedSimpArgs false
namespace Go.Proofs.YtpalbaaghplhnaaDoor
theorem variables : Rows.TaylorVariablesCardSaid := Go.Ab.cardM8
end Go.Proofs.YtpalbaaghplhnaaDoor
#print axioms Go.Proofs.YtpalbaaghplhnaaDoor.variables
