/- PolyMatchesReference holds: for every input the call returns true, and each argument reads as before; conditions: none. -/
import Derived.Test.YthjhgegilibadaaDoorRB1D
namespace Go.Proofs.YthjhgegilibadaaDoor
theorem matchesReference : Rows.PolyMatchesReferenceCardSaid := Go.Ab.card1
end Go.Proofs.YthjhgegilibadaaDoor
#print axioms Go.Proofs.YthjhgegilibadaaDoor.matchesReference
