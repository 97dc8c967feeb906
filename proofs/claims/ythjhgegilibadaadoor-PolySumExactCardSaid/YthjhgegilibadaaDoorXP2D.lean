/- PolySumExact holds: for every input the call returns true, and each argument reads as before; conditions: none. -/
import Derived.Test.YthjhgegilibadaaDoorRB2D
namespace Go.Proofs.YthjhgegilibadaaDoor
theorem sumExact : Rows.PolySumExactCardSaid := Go.Ab.card2
end Go.Proofs.YthjhgegilibadaaDoor
#print axioms Go.Proofs.YthjhgegilibadaaDoor.sumExact
