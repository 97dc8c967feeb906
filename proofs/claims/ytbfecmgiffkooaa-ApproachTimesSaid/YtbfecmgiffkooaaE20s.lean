/- What three small functions of the sanity check do, written out: by evaluation; conditions: none. -/
import Derived.Test.YtbfecmgiffkooaaT20
import Derived.KernelRfl
namespace Go.Ab
set_option linter.unusedVariables false
set_option linter.unusedSimpArgs false
set_option linter.unusedVariables false
theorem e32 (C : CallT) (n0 : Int) (n1 : Int) (n2 : Int) (n3 : Int) : run1 Go.Ab.G20 Go.Ab.L20 C (.func 32) [.int .i64 n0, .int .i64 n1, .int .i64 n2, .int .i64 n3] [] =
  some (.slice .any [[.int .i64 (Go.IntKind.wrap .i64 (n0 * 65536)), .int .i64 (Go.IntKind.wrap .i64 ((Go.IntKind.wrap .i64 (n1 - n0)) * 65536)), .slice .any [[.int .i64 (Go.IntKind.wrap .i64 (n2 * 65536)), .int .i64 (Go.IntKind.wrap .i64 (n3 * 65536))]], .slice .any [[.int .i64 (Go.IntKind.wrap .i64 (n2 * 65536)), .int .i64 (Go.IntKind.wrap .i64 (n3 * 65536))]], .slice .any [[.int .i64 (Go.IntKind.wrap .i64 (n2 * 65536)), .int .i64 (Go.IntKind.wrap .i64 (n3 * 65536))]], .slice .any [[.int .i64 (Go.IntKind.wrap .i64 (n2 * 65536)), .int .i64 (Go.IntKind.wrap .i64 (n3 * 65536))]]]], []) := by kernel_rfl


theorem e33 (C : CallT) (n0 : Int) : run1 Go.Ab.G20 Go.Ab.L20 C (.func 33) [.int .i64 n0] [] =
  some (.agg [.int .i64 1, .int .i64 (Go.IntKind.wrap .i64 (n0 * 65536))], []) := by kernel_rfl


theorem e34 (C : CallT) (n0 : Int) (n1 : Int) (n2 : Int) (n3 : Int) : run1 Go.Ab.G20 Go.Ab.L20 C (.func 34) [.agg [.int .i64 n0, .int .i64 n1], .int .i64 n2, .int .i64 n3] [] =
  cond (n0 == (Go.IntKind.wrap .i64 (n2 * 65536))) (
   some (.bool (n1 == (Go.IntKind.wrap .i64 (n3 * 65536))), [])) (
   some (.bool false, [])) := by kernel_rfl


end Go.Ab
