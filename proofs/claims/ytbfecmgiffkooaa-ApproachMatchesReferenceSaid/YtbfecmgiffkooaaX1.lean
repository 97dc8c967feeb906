/- ApproachMatchesReference: whatever the query and the octet, the law's call answers true and the arguments read behind it as they did; conditions: none. -/
import Derived.Test.YtbfecmgiffkooaaZB
import Derived.Test.YtbfecmgiffkooaaZE
namespace Go.Proofs.Ytbfecmgiffkooaa
theorem matchesReference : Rows.ApproachMatchesReferenceSaid := Go.Ab.said1 fun a b p d e h0 _ _ _ _ _ => Go.Ab.p3 a b p d e h0
end Go.Proofs.Ytbfecmgiffkooaa
