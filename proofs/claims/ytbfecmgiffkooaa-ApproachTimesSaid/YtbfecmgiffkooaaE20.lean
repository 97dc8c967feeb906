/- All of them; conditions: none. -/
import Derived.Test.YtbfecmgiffkooaaE20p0
import Derived.Test.YtbfecmgiffkooaaE20p1
import Derived.Test.YtbfecmgiffkooaaE20p2
import Derived.Test.YtbfecmgiffkooaaE20p3
