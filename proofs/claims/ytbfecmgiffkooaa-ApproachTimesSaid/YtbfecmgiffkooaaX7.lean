/- ApproachTimes: whatever the query, the law's call answers true and the argument reads behind it as it did; conditions: none. -/
import Derived.Test.YtbfecmgiffkooaaZS7
import Derived.Test.YtbfecmgiffkooaaZH
namespace Go.Proofs.Ytbfecmgiffkooaa
theorem times : Rows.ApproachTimesSaid := Go.Ab.said7 fun a b p d h0 _ _ _ => Go.Ab.p9 a b p d h0
end Go.Proofs.Ytbfecmgiffkooaa
