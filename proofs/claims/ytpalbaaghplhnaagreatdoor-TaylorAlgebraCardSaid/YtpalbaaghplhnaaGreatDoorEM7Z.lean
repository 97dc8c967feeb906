/- What one call of each function does, written out: by evaluation; conditions: none. -/
import Derived.KernelRfl
import Derived.Test.YtpalbaaghplhnaaGreatDoorT
set_option linter.unusedVariables false
set_option linter.unusedSimpArgs false
namespace Go.Ab
set_option maxHeartbeats 2000000
set_option maxRecDepth 100000
theorem e9 (C : CallT) (r0 : List (List V)) (n1 : Int) (n2 : Int) (r3 : List (List V)) (n4 : Int) (n5 : Int) (r6 : List (List V)) (n7 : Int) (n8 : Int) : zO GZ LZ C (.func 9) [.agg [.slice .any r0, .int .i64 n1, .int .i64 n2, .slice .any r3, .int .i64 n4, .int .i64 n5, .slice .any r6, .int .u16 n7, .int .u16 n8]] [] =
 (C.p (.func 10) []).bind fun x0 =>
 (asBool (x0)).bind fun x1 =>
 (C.p (.func 11) [.agg [.slice .any r0, .int .i64 n1, .int .i64 n2, .slice .any r3, .int .i64 n4, .int .i64 n5, .slice .any r6, .int .u16 n7, .int .u16 n8]]).bind fun x2 =>
 (zy (x2)).bind fun x3 =>
 (zg x3).bind fun x4 =>
 (zi (x4.1)).bind fun x5 =>
 (zg x5).bind fun x6 =>
 (zl (x6.1)).bind fun x7 =>
 (zg x6.2).bind fun x8 =>
 (asInt .i64 (x8.1)).bind fun x9 =>
 (zg x8.2).bind fun x10 =>
 (asInt .i64 (x10.1)).bind fun x11 =>
 (zh x10.2).bind fun x12 =>
 (zg x4.2).bind fun x13 =>
 (zi (x13.1)).bind fun x14 =>
 (zg x14).bind fun x15 =>
 (zl (x15.1)).bind fun x16 =>
 (zg x15.2).bind fun x17 =>
 (asInt .i64 (x17.1)).bind fun x18 =>
 (zg x17.2).bind fun x19 =>
 (asInt .i64 (x19.1)).bind fun x20 =>
 (zh x19.2).bind fun x21 =>
 (zh x13.2).bind fun x22 =>
 (C.p (.func 18) [.agg [.slice .any x7, .int .i64 x9, .int .i64 x11], .agg [.slice .any x7, .int .i64 x9, .int .i64 x11]]).bind fun x23 =>
 (zi (x23)).bind fun x24 =>
 (zg x24).bind fun x25 =>
 (zl (x25.1)).bind fun x26 =>
 (zg x25.2).bind fun x27 =>
 (asInt .i64 (x27.1)).bind fun x28 =>
 (zg x27.2).bind fun x29 =>
 (asInt .i64 (x29.1)).bind fun x30 =>
 (zh x29.2).bind fun x31 =>
 (C.p (.func 16) [.agg [.slice .any x7, .int .i64 x9, .int .i64 x11], .agg [.slice .any x16, .int .i64 x18, .int .i64 x20]]).bind fun x32 =>
 (zi (x32)).bind fun x33 =>
 (zg x33).bind fun x34 =>
 (zl (x34.1)).bind fun x35 =>
 (zg x34.2).bind fun x36 =>
 (asInt .i64 (x36.1)).bind fun x37 =>
 (zg x36.2).bind fun x38 =>
 (asInt .i64 (x38.1)).bind fun x39 =>
 (zh x38.2).bind fun x40 =>
 (C.p (.func 16) [.agg [.slice .any x16, .int .i64 x18, .int .i64 x20], .agg [.slice .any x7, .int .i64 x9, .int .i64 x11]]).bind fun x41 =>
 (zi (x41)).bind fun x42 =>
 (zg x42).bind fun x43 =>
 (zl (x43.1)).bind fun x44 =>
 (zg x43.2).bind fun x45 =>
 (asInt .i64 (x45.1)).bind fun x46 =>
 (zg x45.2).bind fun x47 =>
 (asInt .i64 (x47.1)).bind fun x48 =>
 (zh x47.2).bind fun x49 =>
 (C.p (.func 15) [.agg [.slice .any x35, .int .i64 x37, .int .i64 x39], .agg [.slice .any x44, .int .i64 x46, .int .i64 x48]]).bind fun x50 =>
 (asBool (x50)).bind fun x51 =>
 cond (!x51) (
 some (.bool false, [])) (
 (C.p (.func 20) [.agg [.slice .any x7, .int .i64 x9, .int .i64 x11]]).bind fun x52 =>
 (zi (x52)).bind fun x53 =>
 (zg x53).bind fun x54 =>
 (zl (x54.1)).bind fun x55 =>
 (zg x54.2).bind fun x56 =>
 (asInt .i64 (x56.1)).bind fun x57 =>
 (zg x56.2).bind fun x58 =>
 (asInt .i64 (x58.1)).bind fun x59 =>
 (zh x58.2).bind fun x60 =>
 (C.p (.func 20) [.agg [.slice .any x55, .int .i64 x57, .int .i64 x59]]).bind fun x61 =>
 (zi (x61)).bind fun x62 =>
 (zg x62).bind fun x63 =>
 (zl (x63.1)).bind fun x64 =>
 (zg x63.2).bind fun x65 =>
 (asInt .i64 (x65.1)).bind fun x66 =>
 (zg x65.2).bind fun x67 =>
 (asInt .i64 (x67.1)).bind fun x68 =>
 (zh x67.2).bind fun x69 =>
 (C.p (.func 15) [.agg [.slice .any x64, .int .i64 x66, .int .i64 x68], .agg [.slice .any x7, .int .i64 x9, .int .i64 x11]]).bind fun x70 =>
 (asBool (x70)).bind fun x71 =>
 cond (!x71) (
 some (.bool false, [])) (
 (C.p (.func 18) [.agg [.slice .any x7, .int .i64 x9, .int .i64 x11], .agg [.slice .any x16, .int .i64 x18, .int .i64 x20]]).bind fun x72 =>
 (zi (x72)).bind fun x73 =>
 (zg x73).bind fun x74 =>
 (zl (x74.1)).bind fun x75 =>
 (zg x74.2).bind fun x76 =>
 (asInt .i64 (x76.1)).bind fun x77 =>
 (zg x76.2).bind fun x78 =>
 (asInt .i64 (x78.1)).bind fun x79 =>
 (zh x78.2).bind fun x80 =>
 (C.p (.func 20) [.agg [.slice .any x16, .int .i64 x18, .int .i64 x20]]).bind fun x81 =>
 (zi (x81)).bind fun x82 =>
 (zg x82).bind fun x83 =>
 (zl (x83.1)).bind fun x84 =>
 (zg x83.2).bind fun x85 =>
 (asInt .i64 (x85.1)).bind fun x86 =>
 (zg x85.2).bind fun x87 =>
 (asInt .i64 (x87.1)).bind fun x88 =>
 (zh x87.2).bind fun x89 =>
 (C.p (.func 16) [.agg [.slice .any x7, .int .i64 x9, .int .i64 x11], .agg [.slice .any x84, .int .i64 x86, .int .i64 x88]]).bind fun x90 =>
 (zi (x90)).bind fun x91 =>
 (zg x91).bind fun x92 =>
 (zl (x92.1)).bind fun x93 =>
 (zg x92.2).bind fun x94 =>
 (asInt .i64 (x94.1)).bind fun x95 =>
 (zg x94.2).bind fun x96 =>
 (asInt .i64 (x96.1)).bind fun x97 =>
 (zh x96.2).bind fun x98 =>
 (C.p (.func 15) [.agg [.slice .any x75, .int .i64 x77, .int .i64 x79], .agg [.slice .any x93, .int .i64 x95, .int .i64 x97]]).bind fun x99 =>
 (asBool (x99)).bind fun x100 =>
 cond (!x100) (
 some (.bool false, [])) (
 (C.p (.func 22) [.agg [.slice .any x7, .int .i64 x9, .int .i64 x11], .agg [.slice .any x16, .int .i64 x18, .int .i64 x20], .int .i64 4]).bind fun x101 =>
 (zi (x101)).bind fun x102 =>
 (zg x102).bind fun x103 =>
 (zl (x103.1)).bind fun x104 =>
 (zg x103.2).bind fun x105 =>
 (asInt .i64 (x105.1)).bind fun x106 =>
 (zg x105.2).bind fun x107 =>
 (asInt .i64 (x107.1)).bind fun x108 =>
 (zh x107.2).bind fun x109 =>
 (C.p (.func 22) [.agg [.slice .any x16, .int .i64 x18, .int .i64 x20], .agg [.slice .any x7, .int .i64 x9, .int .i64 x11], .int .i64 4]).bind fun x110 =>
 (zi (x110)).bind fun x111 =>
 (zg x111).bind fun x112 =>
 (zl (x112.1)).bind fun x113 =>
 (zg x112.2).bind fun x114 =>
 (asInt .i64 (x114.1)).bind fun x115 =>
 (zg x114.2).bind fun x116 =>
 (asInt .i64 (x116.1)).bind fun x117 =>
 (zh x116.2).bind fun x118 =>
 cond x1 (
 cond (((x26.length : Nat) : Int) == 0) (
 (C.p (.func 41) [.agg [.slice .any x26, .int .i64 x28, .int .i64 x30], .slice .any [[.int .i8 0], [.int .i8 0], [.int .i8 0], [.int .i8 0], [.int .i8 0], [.int .i8 0]], .int .i64 0]).bind fun x119 =>
 (asBool (x119)).bind fun x120 =>
 cond x120 (
 (C.p (.func 15) [.agg [.slice .any x104, .int .i64 x106, .int .i64 x108], .agg [.slice .any x113, .int .i64 x115, .int .i64 x117]]).bind fun x121 =>
 (asBool (x121)).bind fun x122 =>
 cond x122 (
 some (.bool true, [])) (
 (C.p (.func 44) [.agg [.int .i64 x106, .int .i64 x108]]).bind fun x123 =>
 (asBool (x123)).bind fun x124 =>
 cond x124 (
 some (.bool true, [])) (
 (C.p (.func 44) [.agg [.int .i64 x115, .int .i64 x117]]).bind fun x125 =>
 (asBool (x125)).bind fun x126 =>
 some (.bool x126, [])))) (
 some (.bool false, []))) (
 some (.bool false, []))) (
 some (.bool false, []))))) := by kernel_rfl
end Go.Ab
