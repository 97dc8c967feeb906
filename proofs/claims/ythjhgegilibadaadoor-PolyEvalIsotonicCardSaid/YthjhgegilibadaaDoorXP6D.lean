/- PolyEvalIsotonic holds: for every input the call returns true, and each argument reads as before; conditions: none. -/
import Derived.Test.YthjhgegilibadaaDoorRB6D
namespace Go.Proofs.YthjhgegilibadaaDoor
theorem evalIsotonic : Rows.PolyEvalIsotonicCardSaid := Go.Ab.card6
end Go.Proofs.YthjhgegilibadaaDoor
#print axioms Go.Proofs.YthjhgegilibadaaDoor.evalIsotonic
