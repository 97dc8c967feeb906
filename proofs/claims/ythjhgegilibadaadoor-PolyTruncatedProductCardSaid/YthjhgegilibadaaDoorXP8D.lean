/- PolyTruncatedProduct holds: for every input the call returns true, and each argument reads as before; conditions: none. -/
import Derived.Test.YthjhgegilibadaaDoorRB8D
namespace Go.Proofs.YthjhgegilibadaaDoor
theorem truncatedProduct : Rows.PolyTruncatedProductCardSaid := Go.Ab.card8
end Go.Proofs.YthjhgegilibadaaDoor
#print axioms Go.Proofs.YthjhgegilibadaaDoor.truncatedProduct
