/- What one call of each function does, written out: by evaluation; conditions: none. -/
import Derived.KernelRfl
import Derived.Test.YtpalbaaghplhnaaGreatDoorT
set_option linter.unusedVariables false
set_option linter.unusedSimpArgs false
namespace Go.Ab
set_option maxHeartbeats 2000000
set_option maxRecDepth 100000
theorem e5 (C : CallT) (r0 : List (List V)) (n1 : Int) (n2 : Int) (r3 : List (List V)) (n4 : Int) (n5 : Int) (r6 : List (List V)) (n7 : Int) (n8 : Int) (n9 : Int) : zO GZ LZ C (.func 5) [.agg [.slice .any r0, .int .i64 n1, .int .i64 n2, .slice .any r3, .int .i64 n4, .int .i64 n5, .slice .any r6, .int .u16 n7, .int .u16 n8], .int .u8 n9] [] =
 (C.p (.func 10) []).bind fun x0 =>
 (asBool (x0)).bind fun x1 =>
 (C.p (.func 11) [.agg [.slice .any r0, .int .i64 n1, .int .i64 n2, .slice .any r3, .int .i64 n4, .int .i64 n5, .slice .any r6, .int .u16 n7, .int .u16 n8]]).bind fun x2 =>
 (zy (x2)).bind fun x3 =>
 (zg x3).bind fun x4 =>
 (zi (x4.1)).bind fun x5 =>
 (zg x5).bind fun x6 =>
 (zl (x6.1)).bind fun x7 =>
 (zg x6.2).bind fun x8 =>
 (asInt .i64 (x8.1)).bind fun x9 =>
 (zg x8.2).bind fun x10 =>
 (asInt .i64 (x10.1)).bind fun x11 =>
 (zh x10.2).bind fun x12 =>
 (zg x4.2).bind fun x13 =>
 (zi (x13.1)).bind fun x14 =>
 (zg x14).bind fun x15 =>
 (zl (x15.1)).bind fun x16 =>
 (zg x15.2).bind fun x17 =>
 (asInt .i64 (x17.1)).bind fun x18 =>
 (zg x17.2).bind fun x19 =>
 (asInt .i64 (x19.1)).bind fun x20 =>
 (zh x19.2).bind fun x21 =>
 (zh x13.2).bind fun x22 =>
 (C.p (.func 38) [.agg [.int .i64 x9, .int .i64 x11]]).bind fun x23 =>
 (asBool (x23)).bind fun x24 =>
 cond x24 (
 some (.bool x1, [])) (
 (C.p (.func 38) [.agg [.int .i64 x18, .int .i64 x20]]).bind fun x25 =>
 (asBool (x25)).bind fun x26 =>
 cond x26 (
 some (.bool x1, [])) (
 (C.p (.func 39) [.agg [.slice .any x7, .int .i64 x9, .int .i64 x11], .slice .any r6, .int .u16 n7]).bind fun x27 =>
 (asInt .i64 (x27)).bind fun x28 =>
 (C.p (.func 39) [.agg [.slice .any x16, .int .i64 x18, .int .i64 x20], .slice .any r6, .int .u16 n8]).bind fun x29 =>
 (asInt .i64 (x29)).bind fun x30 =>
 (C.p (.func 40) [.int .i64 x28]).bind fun x31 =>
 (asBool (x31)).bind fun x32 =>
 cond (!x32) (
 some (.bool x1, [])) (
 (C.p (.func 40) [.int .i64 x30]).bind fun x33 =>
 (asBool (x33)).bind fun x34 =>
 cond (!x34) (
 some (.bool x1, [])) (
 cond x1 (
 (C.p (.func 16) [.agg [.slice .any x7, .int .i64 x9, .int .i64 x11], .agg [.slice .any x16, .int .i64 x18, .int .i64 x20]]).bind fun x35 =>
 (zi (x35)).bind fun x36 =>
 (zg x36).bind fun x37 =>
 (zl (x37.1)).bind fun x38 =>
 (zg x37.2).bind fun x39 =>
 (asInt .i64 (x39.1)).bind fun x40 =>
 (zg x39.2).bind fun x41 =>
 (asInt .i64 (x41.1)).bind fun x42 =>
 (zh x41.2).bind fun x43 =>
 (C.p (.func 41) [.agg [.slice .any x38, .int .i64 x40, .int .i64 x42], .slice .any r6, .int .i64 (IntKind.wrap .i64 ((IntKind.wrap .i64 (x28 + x30)) * 65536))]).bind fun x44 =>
 (asBool (x44)).bind fun x45 =>
 cond x45 (
 (C.p (.func 18) [.agg [.slice .any x7, .int .i64 x9, .int .i64 x11], .agg [.slice .any x16, .int .i64 x18, .int .i64 x20]]).bind fun x46 =>
 (zi (x46)).bind fun x47 =>
 (zg x47).bind fun x48 =>
 (zl (x48.1)).bind fun x49 =>
 (zg x48.2).bind fun x50 =>
 (asInt .i64 (x50.1)).bind fun x51 =>
 (zg x50.2).bind fun x52 =>
 (asInt .i64 (x52.1)).bind fun x53 =>
 (zh x52.2).bind fun x54 =>
 (C.p (.func 41) [.agg [.slice .any x49, .int .i64 x51, .int .i64 x53], .slice .any r6, .int .i64 (IntKind.wrap .i64 ((IntKind.wrap .i64 (x28 - x30)) * 65536))]).bind fun x55 =>
 (asBool (x55)).bind fun x56 =>
 cond x56 (
 (C.p (.func 22) [.agg [.slice .any x7, .int .i64 x9, .int .i64 x11], .agg [.slice .any x16, .int .i64 x18, .int .i64 x20], .int .i64 (IntKind.wrap .i64 (Int.tmod n9 7))]).bind fun x57 =>
 (zi (x57)).bind fun x58 =>
 (zg x58).bind fun x59 =>
 (zl (x59.1)).bind fun x60 =>
 (zg x59.2).bind fun x61 =>
 (asInt .i64 (x61.1)).bind fun x62 =>
 (zg x61.2).bind fun x63 =>
 (asInt .i64 (x63.1)).bind fun x64 =>
 (zh x63.2).bind fun x65 =>
 (C.p (.func 41) [.agg [.slice .any x60, .int .i64 x62, .int .i64 x64], .slice .any r6, .int .i64 (IntKind.wrap .i64 (x28 * x30))]).bind fun x66 =>
 (asBool (x66)).bind fun x67 =>
 some (.bool x67, [])) (
 some (.bool false, []))) (
 some (.bool false, []))) (
 some (.bool false, [])))))) := by kernel_rfl
end Go.Ab
