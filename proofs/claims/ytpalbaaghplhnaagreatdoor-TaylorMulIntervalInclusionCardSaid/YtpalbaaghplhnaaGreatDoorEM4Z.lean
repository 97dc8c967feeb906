/- What one call of each function does, written out: by evaluation; conditions: none. -/
import Derived.KernelRfl
import Derived.Test.YtpalbaaghplhnaaGreatDoorT
set_option linter.unusedVariables false
set_option linter.unusedSimpArgs false
namespace Go.Ab
set_option maxHeartbeats 2000000
set_option maxRecDepth 100000
theorem e6 (C : CallT) (r0 : List (List V)) (n1 : Int) (n2 : Int) (r3 : List (List V)) (n4 : Int) (n5 : Int) (r6 : List (List V)) (n7 : Int) (n8 : Int) (n9 : Int) (n10 : Int) : zO GZ LZ C (.func 6) [.agg [.slice .any r0, .int .i64 n1, .int .i64 n2, .slice .any r3, .int .i64 n4, .int .i64 n5, .slice .any r6, .int .u16 n7, .int .u16 n8], .agg [.int .i64 n9, .int .i64 n10]] [] =
 (C.p (.func 10) []).bind fun x0 =>
 (asBool (x0)).bind fun x1 =>
 (C.p (.func 11) [.agg [.slice .any r0, .int .i64 n1, .int .i64 n2, .slice .any r3, .int .i64 n4, .int .i64 n5, .slice .any r6, .int .u16 n7, .int .u16 n8]]).bind fun x2 =>
 (zz (x2)).bind fun x3 =>
 (zg x3).bind fun x4 =>
 (zi (x4.1)).bind fun x5 =>
 (zg x5).bind fun x6 =>
 (zl (x6.1)).bind fun x7 =>
 (zg x6.2).bind fun x8 =>
 (asInt .i64 (x8.1)).bind fun x9 =>
 (zg x8.2).bind fun x10 =>
 (asInt .i64 (x10.1)).bind fun x11 =>
 (zh x10.2).bind fun x12 =>
 (zg x4.2).bind fun x13 =>
 (zi (x13.1)).bind fun x14 =>
 (zg x14).bind fun x15 =>
 (zl (x15.1)).bind fun x16 =>
 (zg x15.2).bind fun x17 =>
 (asInt .i64 (x17.1)).bind fun x18 =>
 (zg x17.2).bind fun x19 =>
 (asInt .i64 (x19.1)).bind fun x20 =>
 (zh x19.2).bind fun x21 =>
 (zh x13.2).bind fun x22 =>
 (C.p (.func 12) [.agg [.int .i64 n9, .int .i64 n10]]).bind fun x23 =>
 (zi (x23)).bind fun x24 =>
 (zg x24).bind fun x25 =>
 (asInt .i64 (x25.1)).bind fun x26 =>
 (zg x25.2).bind fun x27 =>
 (asInt .i64 (x27.1)).bind fun x28 =>
 (zh x27.2).bind fun x29 =>
 (C.p (.func 38) [.agg [.int .i64 x9, .int .i64 x11]]).bind fun x30 =>
 (asBool (x30)).bind fun x31 =>
 cond x31 (
 some (.bool x1, [])) (
 (C.p (.func 38) [.agg [.int .i64 x26, .int .i64 x28]]).bind fun x32 =>
 (asBool (x32)).bind fun x33 =>
 cond x33 (
 some (.bool x1, [])) (
 (C.p (.func 39) [.agg [.slice .any x7, .int .i64 x9, .int .i64 x11], .slice .any r6, .int .u16 n7]).bind fun x34 =>
 (asInt .i64 (x34)).bind fun x35 =>
 (C.p (.func 40) [.int .i64 x35]).bind fun x36 =>
 (asBool (x36)).bind fun x37 =>
 cond (!x37) (
 some (.bool x1, [])) (
 (C.p (.func 40) [.int .i64 (IntKind.wrap .i64 (x26 + (IntKind.wrap .i64 (Int.tdiv (IntKind.wrap .i64 ((IntKind.wrap .i64 (x28 - x26)) * (IntKind.wrap .i64 n8))) 65535))))]).bind fun x38 =>
 (asBool (x38)).bind fun x39 =>
 cond (!x39) (
 some (.bool x1, [])) (
 cond x1 (
 (C.p (.func 24) [.agg [.slice .any x7, .int .i64 x9, .int .i64 x11], .agg [.int .i64 x26, .int .i64 x28]]).bind fun x40 =>
 (zi (x40)).bind fun x41 =>
 (zg x41).bind fun x42 =>
 (zl (x42.1)).bind fun x43 =>
 (zg x42.2).bind fun x44 =>
 (asInt .i64 (x44.1)).bind fun x45 =>
 (zg x44.2).bind fun x46 =>
 (asInt .i64 (x46.1)).bind fun x47 =>
 (zh x46.2).bind fun x48 =>
 (C.p (.func 41) [.agg [.slice .any x43, .int .i64 x45, .int .i64 x47], .slice .any r6, .int .i64 (IntKind.wrap .i64 (x35 * (IntKind.wrap .i64 (x26 + (IntKind.wrap .i64 (Int.tdiv (IntKind.wrap .i64 ((IntKind.wrap .i64 (x28 - x26)) * (IntKind.wrap .i64 n8))) 65535))))))]).bind fun x49 =>
 (asBool (x49)).bind fun x50 =>
 cond x50 (
 (C.p (.func 42) [.int .i64 1, .int .i64 1]).bind fun x51 =>
 (zi (x51)).bind fun x52 =>
 (zg x52).bind fun x53 =>
 (asInt .i64 (x53.1)).bind fun x54 =>
 (zg x53.2).bind fun x55 =>
 (asInt .i64 (x55.1)).bind fun x56 =>
 (zh x55.2).bind fun x57 =>
 (C.p (.func 24) [.agg [.slice .any x7, .int .i64 x9, .int .i64 x11], .agg [.int .i64 x54, .int .i64 x56]]).bind fun x58 =>
 (zi (x58)).bind fun x59 =>
 (zg x59).bind fun x60 =>
 (zl (x60.1)).bind fun x61 =>
 (zg x60.2).bind fun x62 =>
 (asInt .i64 (x62.1)).bind fun x63 =>
 (zg x62.2).bind fun x64 =>
 (asInt .i64 (x64.1)).bind fun x65 =>
 (zh x64.2).bind fun x66 =>
 (C.p (.func 41) [.agg [.slice .any x61, .int .i64 x63, .int .i64 x65], .slice .any r6, .int .i64 (IntKind.wrap .i64 (x35 * 65536))]).bind fun x67 =>
 (asBool (x67)).bind fun x68 =>
 some (.bool x68, [])) (
 some (.bool false, []))) (
 some (.bool false, [])))))) := by kernel_rfl
end Go.Ab
