/- ApproachSoundness: whatever the query, the places and the picks, the law's call answers true and the arguments read behind it as they did; conditions: none. -/
import Derived.Test.YtbfecmgiffkooaaZS2
import Derived.Test.YtbfecmgiffkooaaZK
namespace Go.Proofs.Ytbfecmgiffkooaa
theorem soundness : Rows.ApproachSoundnessSaid := Go.Ab.said2 fun a b p d y0 y1 p0 p1 p2 p3 p4 p5 h0 _ _ _ o0 o1 c0 c1 c2 c3 c4 c5 => Go.Ab.p4 a b p d y0 y1 p0 p1 p2 p3 p4 p5 h0 o0 o1 c0 c1 c2 c3 c4 c5
end Go.Proofs.Ytbfecmgiffkooaa
