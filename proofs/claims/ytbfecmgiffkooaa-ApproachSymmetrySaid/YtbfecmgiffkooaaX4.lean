/- ApproachSymmetry: whatever the query, the law's call answers true and the argument reads behind it as it did; conditions: none. -/
import Derived.Test.YtbfecmgiffkooaaZS4
import Derived.Test.YtbfecmgiffkooaaZH
namespace Go.Proofs.Ytbfecmgiffkooaa
theorem symmetry : Rows.ApproachSymmetrySaid := Go.Ab.said4 fun a b p d h0 _ _ _ => Go.Ab.p6 a b p d h0
end Go.Proofs.Ytbfecmgiffkooaa
