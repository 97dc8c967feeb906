/- ApproachSplit: whatever the query, the place and the cut, the law's call answers true and the arguments read behind it as they did; conditions: none. -/
import Derived.Test.YtbfecmgiffkooaaZS8
import Derived.Test.YtbfecmgiffkooaaZN
namespace Go.Proofs.Ytbfecmgiffkooaa
theorem split : Rows.ApproachSplitSaid := Go.Ab.said8 fun a b p d z1 z2 h0 _ _ _ o1 o2 => Go.Ab.p10 a b p d z1 z2 h0 o1 o2
end Go.Proofs.Ytbfecmgiffkooaa
