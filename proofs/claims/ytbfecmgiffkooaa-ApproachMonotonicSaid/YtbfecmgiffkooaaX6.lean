/- ApproachMonotonic: whatever the query, the widening and the number that lessens the distance, the law's call answers true and the arguments read behind it as they did; conditions: none. -/
import Derived.Test.YtbfecmgiffkooaaZS6
import Derived.Test.YtbfecmgiffkooaaZT
namespace Go.Proofs.Ytbfecmgiffkooaa
theorem monotonic : Rows.ApproachMonotonicSaid := Go.Ab.said6 fun a b p d z1 z2 h0 _ _ _ o1 o2 => Go.Ab.p8 a b p d z1 z2 h0 o1 o2
end Go.Proofs.Ytbfecmgiffkooaa
