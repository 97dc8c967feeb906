/- ApproachConflict: whatever the query and the picks, the law's call answers true and the arguments read behind it as they did; conditions: none. -/
import Derived.Test.YtbfecmgiffkooaaZS3
import Derived.Test.YtbfecmgiffkooaaZL
namespace Go.Proofs.Ytbfecmgiffkooaa
theorem conflict : Rows.ApproachConflictSaid := Go.Ab.said3 fun a b p d p0 p1 p2 p3 p4 p5 h0 _ _ _ c0 c1 c2 c3 c4 c5 => Go.Ab.p5 a b p d p0 p1 p2 p3 p4 p5 h0 c0 c1 c2 c3 c4 c5
end Go.Proofs.Ytbfecmgiffkooaa
