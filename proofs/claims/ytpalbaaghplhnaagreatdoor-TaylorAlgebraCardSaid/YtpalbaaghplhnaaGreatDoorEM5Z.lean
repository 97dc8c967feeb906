/- What one call of each function does, written out: by evaluation; conditions: none. -/
import Derived.KernelRfl
import Derived.Test.YtpalbaaghplhnaaGreatDoorT
set_option linter.unusedVariables false
set_option linter.unusedSimpArgs false
namespace Go.Ab
set_option maxHeartbeats 2000000
set_option maxRecDepth 100000
theorem e7 (C : CallT) (r0 : List (List V)) (n1 : Int) (n2 : Int) (r3 : List (List V)) (n4 : Int) (n5 : Int) (r6 : List (List V)) (n7 : Int) (n8 : Int) : zO GZ LZ C (.func 7) [.agg [.slice .any r0, .int .i64 n1, .int .i64 n2, .slice .any r3, .int .i64 n4, .int .i64 n5, .slice .any r6, .int .u16 n7, .int .u16 n8]] [] =
 (C.p (.func 10) []).bind fun x0 =>
 (asBool (x0)).bind fun x1 =>
 (C.p (.func 11) [.agg [.slice .any r0, .int .i64 n1, .int .i64 n2, .slice .any r3, .int .i64 n4, .int .i64 n5, .slice .any r6, .int .u16 n7, .int .u16 n8]]).bind fun x2 =>
 (zy (x2)).bind fun x3 =>
 (zg x3).bind fun x4 =>
 (zi (x4.1)).bind fun x5 =>
 (zg x5).bind fun x6 =>
 (zl (x6.1)).bind fun x7 =>
 (zg x6.2).bind fun x8 =>
 (asInt .i64 (x8.1)).bind fun x9 =>
 (zg x8.2).bind fun x10 =>
 (asInt .i64 (x10.1)).bind fun x11 =>
 (zh x10.2).bind fun x12 =>
 (zg x4.2).bind fun x13 =>
 (zi (x13.1)).bind fun x14 =>
 (zg x14).bind fun x15 =>
 (zl (x15.1)).bind fun x16 =>
 (zg x15.2).bind fun x17 =>
 (asInt .i64 (x17.1)).bind fun x18 =>
 (zg x17.2).bind fun x19 =>
 (asInt .i64 (x19.1)).bind fun x20 =>
 (zh x19.2).bind fun x21 =>
 (zh x13.2).bind fun x22 =>
 (C.p (.func 28) [.agg [.slice .any x7, .int .i64 x9, .int .i64 x11]]).bind fun x23 =>
 (zi (x23)).bind fun x24 =>
 (zg x24).bind fun x25 =>
 (asInt .i64 (x25.1)).bind fun x26 =>
 (zg x25.2).bind fun x27 =>
 (asInt .i64 (x27.1)).bind fun x28 =>
 (zh x27.2).bind fun x29 =>
 (C.p (.func 43) [.slice .any r6]).bind fun x30 =>
 (zl (x30)).bind fun x31 =>
 (C.p (.func 36) [.agg [.slice .any x7, .int .i64 x9, .int .i64 x11], .slice .any x31]).bind fun x32 =>
 (zi (x32)).bind fun x33 =>
 (zg x33).bind fun x34 =>
 (asInt .i64 (x34.1)).bind fun x35 =>
 (zg x34.2).bind fun x36 =>
 (asInt .i64 (x36.1)).bind fun x37 =>
 (zh x36.2).bind fun x38 =>
 (C.p (.func 22) [.agg [.slice .any x7, .int .i64 x9, .int .i64 x11], .agg [.slice .any x16, .int .i64 x18, .int .i64 x20], .int .i64 3]).bind fun x39 =>
 (zi (x39)).bind fun x40 =>
 (zg x40).bind fun x41 =>
 (zl (x41.1)).bind fun x42 =>
 (zg x41.2).bind fun x43 =>
 (asInt .i64 (x43.1)).bind fun x44 =>
 (zg x43.2).bind fun x45 =>
 (asInt .i64 (x45.1)).bind fun x46 =>
 (zh x45.2).bind fun x47 =>
 (C.p (.func 13) [.agg [.slice .any x42, .int .i64 x44, .int .i64 x46]]).bind fun x48 =>
 (asBool (x48)).bind fun x49 =>
 cond (!x49) (
 some (.bool false, [])) (
 (C.p (.func 14) [.agg [.slice .any x42, .int .i64 x44, .int .i64 x46]]).bind fun x50 =>
 (asBool (x50)).bind fun x51 =>
 cond (!x51) (
 some (.bool false, [])) (
 (C.p (.func 16) [.agg [.slice .any x7, .int .i64 x9, .int .i64 x11], .agg [.slice .any x16, .int .i64 x18, .int .i64 x20]]).bind fun x52 =>
 (zi (x52)).bind fun x53 =>
 (zg x53).bind fun x54 =>
 (zl (x54.1)).bind fun x55 =>
 (zg x54.2).bind fun x56 =>
 (asInt .i64 (x56.1)).bind fun x57 =>
 (zg x56.2).bind fun x58 =>
 (asInt .i64 (x58.1)).bind fun x59 =>
 (zh x58.2).bind fun x60 =>
 (C.p (.func 14) [.agg [.slice .any x55, .int .i64 x57, .int .i64 x59]]).bind fun x61 =>
 (asBool (x61)).bind fun x62 =>
 cond (!x62) (
 some (.bool false, [])) (
 (C.p (.func 20) [.agg [.slice .any x7, .int .i64 x9, .int .i64 x11]]).bind fun x63 =>
 (zi (x63)).bind fun x64 =>
 (zg x64).bind fun x65 =>
 (zl (x65.1)).bind fun x66 =>
 (zg x65.2).bind fun x67 =>
 (asInt .i64 (x67.1)).bind fun x68 =>
 (zg x67.2).bind fun x69 =>
 (asInt .i64 (x69.1)).bind fun x70 =>
 (zh x69.2).bind fun x71 =>
 (C.p (.func 14) [.agg [.slice .any x66, .int .i64 x68, .int .i64 x70]]).bind fun x72 =>
 (asBool (x72)).bind fun x73 =>
 cond (!x73) (
 some (.bool false, [])) (
 (C.p (.func 38) [.agg [.int .i64 x9, .int .i64 x11]]).bind fun x74 =>
 (asBool (x74)).bind fun x75 =>
 cond x75 (
 cond x1 (
 (C.p (.func 44) [.agg [.int .i64 x26, .int .i64 x28]]).bind fun x84 =>
 (asBool (x84)).bind fun x85 =>
 cond x85 (
 (C.p (.func 44) [.agg [.int .i64 x35, .int .i64 x37]]).bind fun x86 =>
 (asBool (x86)).bind fun x87 =>
 some (.bool x87, [])) (
 some (.bool false, []))) (
 some (.bool false, []))) (
 (C.p (.func 39) [.agg [.slice .any x7, .int .i64 x9, .int .i64 x11], .slice .any r6, .int .u16 n7]).bind fun x76 =>
 (asInt .i64 (x76)).bind fun x77 =>
 cond x1 (
 (C.p (.func 44) [.agg [.int .i64 x26, .int .i64 x28]]).bind fun x78 =>
 (asBool (x78)).bind fun x79 =>
 cond x79 (
 (C.p (.func 44) [.agg [.int .i64 x35, .int .i64 x37]]).bind fun x82 =>
 (asBool (x82)).bind fun x83 =>
 cond x83 (
 some (.bool true, [])) (
 cond (decide (x35 ≤ x77)) (
 some (.bool (decide (x77 ≤ x37)), [])) (
 some (.bool false, [])))) (
 cond (decide (x26 ≤ x77)) (
 cond (decide (x77 ≤ x28)) (
 (C.p (.func 44) [.agg [.int .i64 x35, .int .i64 x37]]).bind fun x80 =>
 (asBool (x80)).bind fun x81 =>
 cond x81 (
 some (.bool true, [])) (
 cond (decide (x35 ≤ x77)) (
 some (.bool (decide (x77 ≤ x37)), [])) (
 some (.bool false, [])))) (
 some (.bool false, []))) (
 some (.bool false, [])))) (
 some (.bool false, []))))))) := by kernel_rfl
end Go.Ab
