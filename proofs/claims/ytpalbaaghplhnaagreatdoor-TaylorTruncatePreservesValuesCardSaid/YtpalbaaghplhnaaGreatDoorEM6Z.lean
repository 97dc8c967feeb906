/- What one call of each function does, written out: by evaluation; conditions: none. -/
import Derived.KernelRfl
import Derived.Test.YtpalbaaghplhnaaGreatDoorT
set_option linter.unusedVariables false
set_option linter.unusedSimpArgs false
namespace Go.Ab
set_option maxHeartbeats 2000000
set_option maxRecDepth 100000
theorem e8 (C : CallT) (r0 : List (List V)) (n1 : Int) (n2 : Int) (r3 : List (List V)) (n4 : Int) (n5 : Int) (r6 : List (List V)) (n7 : Int) (n8 : Int) (n9 : Int) : zO GZ LZ C (.func 8) [.agg [.slice .any r0, .int .i64 n1, .int .i64 n2, .slice .any r3, .int .i64 n4, .int .i64 n5, .slice .any r6, .int .u16 n7, .int .u16 n8], .int .u8 n9] [] =
 (C.p (.func 10) []).bind fun x0 =>
 (asBool (x0)).bind fun x1 =>
 (C.p (.func 11) [.agg [.slice .any r0, .int .i64 n1, .int .i64 n2, .slice .any r3, .int .i64 n4, .int .i64 n5, .slice .any r6, .int .u16 n7, .int .u16 n8]]).bind fun x2 =>
 (zy (x2)).bind fun x3 =>
 (zg x3).bind fun x4 =>
 (zi (x4.1)).bind fun x5 =>
 (zg x5).bind fun x6 =>
 (zl (x6.1)).bind fun x7 =>
 (zg x6.2).bind fun x8 =>
 (asInt .i64 (x8.1)).bind fun x9 =>
 (zg x8.2).bind fun x10 =>
 (asInt .i64 (x10.1)).bind fun x11 =>
 (zh x10.2).bind fun x12 =>
 (zg x4.2).bind fun x13 =>
 (zi (x13.1)).bind fun x14 =>
 (zg x14).bind fun x15 =>
 (zl (x15.1)).bind fun x16 =>
 (zg x15.2).bind fun x17 =>
 (asInt .i64 (x17.1)).bind fun x18 =>
 (zg x17.2).bind fun x19 =>
 (asInt .i64 (x19.1)).bind fun x20 =>
 (zh x19.2).bind fun x21 =>
 (zh x13.2).bind fun x22 =>
 (C.p (.func 26) [.agg [.slice .any x7, .int .i64 x9, .int .i64 x11], .int .i64 (IntKind.wrap .i64 (Int.tmod n9 7))]).bind fun x23 =>
 (zi (x23)).bind fun x24 =>
 (zg x24).bind fun x25 =>
 (zl (x25.1)).bind fun x26 =>
 (zg x25.2).bind fun x27 =>
 (asInt .i64 (x27.1)).bind fun x28 =>
 (zg x27.2).bind fun x29 =>
 (asInt .i64 (x29.1)).bind fun x30 =>
 (zh x29.2).bind fun x31 =>
 (C.p (.func 38) [.agg [.int .i64 x9, .int .i64 x11]]).bind fun x32 =>
 (asBool (x32)).bind fun x33 =>
 cond x33 (
 cond x1 (
 (C.p (.func 44) [.agg [.int .i64 x28, .int .i64 x30]]).bind fun x64 =>
 (asBool (x64)).bind fun x65 =>
 some (.bool x65, [])) (
 some (.bool false, []))) (
 cond x1 (
 (C.p (.func 14) [.agg [.slice .any x26, .int .i64 x28, .int .i64 x30]]).bind fun x34 =>
 (asBool (x34)).bind fun x35 =>
 cond x35 (
 (C.p (.func 45) [.slice .any x26]).bind fun x36 =>
 (asInt .i64 (x36)).bind fun x37 =>
 cond (decide (x37 ≤ (IntKind.wrap .i64 (Int.tmod n9 7)))) (
 (C.p (.func 39) [.agg [.slice .any x7, .int .i64 x9, .int .i64 x11], .slice .any r6, .int .u16 n7]).bind fun x38 =>
 (asInt .i64 (x38)).bind fun x39 =>
 (C.p (.func 41) [.agg [.slice .any x26, .int .i64 x28, .int .i64 x30], .slice .any r6, .int .i64 (IntKind.wrap .i64 (x39 * 65536))]).bind fun x40 =>
 (asBool (x40)).bind fun x41 =>
 cond x41 (
 (C.p (.func 26) [.agg [.slice .any x26, .int .i64 x28, .int .i64 x30], .int .i64 (IntKind.wrap .i64 (Int.tmod n9 7))]).bind fun x42 =>
 (zi (x42)).bind fun x43 =>
 (zg x43).bind fun x44 =>
 (zl (x44.1)).bind fun x45 =>
 (zg x44.2).bind fun x46 =>
 (asInt .i64 (x46.1)).bind fun x47 =>
 (zg x46.2).bind fun x48 =>
 (asInt .i64 (x48.1)).bind fun x49 =>
 (zh x48.2).bind fun x50 =>
 (C.p (.func 15) [.agg [.slice .any x45, .int .i64 x47, .int .i64 x49], .agg [.slice .any x26, .int .i64 x28, .int .i64 x30]]).bind fun x51 =>
 (asBool (x51)).bind fun x52 =>
 cond x52 (
 (C.p (.func 26) [.agg [.slice .any x7, .int .i64 x9, .int .i64 x11], .int .i64 6]).bind fun x53 =>
 (zi (x53)).bind fun x54 =>
 (zg x54).bind fun x55 =>
 (zl (x55.1)).bind fun x56 =>
 (zg x55.2).bind fun x57 =>
 (asInt .i64 (x57.1)).bind fun x58 =>
 (zg x57.2).bind fun x59 =>
 (asInt .i64 (x59.1)).bind fun x60 =>
 (zh x59.2).bind fun x61 =>
 (C.p (.func 15) [.agg [.slice .any x56, .int .i64 x58, .int .i64 x60], .agg [.slice .any x7, .int .i64 x9, .int .i64 x11]]).bind fun x62 =>
 (asBool (x62)).bind fun x63 =>
 some (.bool x63, [])) (
 some (.bool false, []))) (
 some (.bool false, []))) (
 some (.bool false, []))) (
 some (.bool false, []))) (
 some (.bool false, []))) := by kernel_rfl
end Go.Ab
