/- ApproachShift: whatever the query and the two shifts, the law's call answers true and the arguments read behind it as they did; conditions: none. -/
import Derived.Test.YtbfecmgiffkooaaZS5
import Derived.Test.YtbfecmgiffkooaaZQ
namespace Go.Proofs.Ytbfecmgiffkooaa
theorem shift : Rows.ApproachShiftSaid := Go.Ab.said5 fun a b p d z1 z2 h0 _ _ _ o1 o2 => Go.Ab.p7 a b p d z1 z2 h0 o1 o2
end Go.Proofs.Ytbfecmgiffkooaa
