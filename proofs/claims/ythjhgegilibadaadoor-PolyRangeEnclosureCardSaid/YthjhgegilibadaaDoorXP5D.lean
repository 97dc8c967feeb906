/- PolyRangeEnclosure holds: for every input the call returns true, and each argument reads as before; conditions: none. -/
import Derived.Test.YthjhgegilibadaaDoorRB5D
namespace Go.Proofs.YthjhgegilibadaaDoor
theorem rangeEnclosure : Rows.PolyRangeEnclosureCardSaid := Go.Ab.card5
end Go.Proofs.YthjhgegilibadaaDoor
#print axioms Go.Proofs.YthjhgegilibadaaDoor.rangeEnclosure
