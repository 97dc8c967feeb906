/- All of them; conditions: none. -/
import Derived.Test.YtbfecmgiffkooaaE1
import Derived.Test.YtbfecmgiffkooaaE2
import Derived.Test.YtbfecmgiffkooaaE3
import Derived.Test.YtbfecmgiffkooaaE4

