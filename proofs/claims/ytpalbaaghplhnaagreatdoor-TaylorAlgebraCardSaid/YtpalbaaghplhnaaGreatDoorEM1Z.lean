/- What one call of each function does, written out: by evaluation; conditions: none. -/
import Derived.KernelRfl
import Derived.Test.YtpalbaaghplhnaaGreatDoorT
set_option linter.unusedVariables false
set_option linter.unusedSimpArgs false
namespace Go.Ab
set_option maxHeartbeats 2000000
set_option maxRecDepth 100000
theorem e3 (C : CallT) (r0 : List (List V)) (n1 : Int) (n2 : Int) (r3 : List (List V)) (n4 : Int) (n5 : Int) (r6 : List (List V)) (n7 : Int) (n8 : Int) (n9 : Int) (n10 : Int) (n11 : Int) : zO GZ LZ C (.func 3) [.agg [.slice .any r0, .int .i64 n1, .int .i64 n2, .slice .any r3, .int .i64 n4, .int .i64 n5, .slice .any r6, .int .u16 n7, .int .u16 n8], .int .u8 n9, .agg [.int .i64 n10, .int .i64 n11]] [] =
 (C.p (.func 10) []).bind fun x0 =>
 (asBool (x0)).bind fun x1 =>
 (C.p (.func 11) [.agg [.slice .any r0, .int .i64 n1, .int .i64 n2, .slice .any r3, .int .i64 n4, .int .i64 n5, .slice .any r6, .int .u16 n7, .int .u16 n8]]).bind fun x2 =>
 (zy (x2)).bind fun x3 =>
 (zg x3).bind fun x4 =>
 (zi (x4.1)).bind fun x5 =>
 (zg x5).bind fun x6 =>
 (zl (x6.1)).bind fun x7 =>
 (zg x6.2).bind fun x8 =>
 (asInt .i64 (x8.1)).bind fun x9 =>
 (zg x8.2).bind fun x10 =>
 (asInt .i64 (x10.1)).bind fun x11 =>
 (zh x10.2).bind fun x12 =>
 (zg x4.2).bind fun x13 =>
 (zi (x13.1)).bind fun x14 =>
 (zg x14).bind fun x15 =>
 (zl (x15.1)).bind fun x16 =>
 (zg x15.2).bind fun x17 =>
 (asInt .i64 (x17.1)).bind fun x18 =>
 (zg x17.2).bind fun x19 =>
 (asInt .i64 (x19.1)).bind fun x20 =>
 (zh x19.2).bind fun x21 =>
 (zh x13.2).bind fun x22 =>
 cond (decide (((r0.length : Nat) : Int) > 120)) (
 some (.bool x1, [])) (
 (C.p (.func 12) [.agg [.int .i64 n10, .int .i64 n11]]).bind fun x23 =>
 (zi (x23)).bind fun x24 =>
 (zg x24).bind fun x25 =>
 (asInt .i64 (x25.1)).bind fun x26 =>
 (zg x25.2).bind fun x27 =>
 (asInt .i64 (x27.1)).bind fun x28 =>
 (zh x27.2).bind fun x29 =>
 cond x1 (
 (C.p (.func 13) [.agg [.slice .any r0, .int .i64 n1, .int .i64 n2]]).bind fun x30 =>
 (asBool (x30)).bind fun x31 =>
 (C.p (.func 14) [.agg [.slice .any r0, .int .i64 n1, .int .i64 n2]]).bind fun x32 =>
 (asBool (x32)).bind fun x33 =>
 cond (x31 == x33) (
 (C.p (.func 16) [.agg [.slice .any x7, .int .i64 x9, .int .i64 x11], .agg [.slice .any x16, .int .i64 x18, .int .i64 x20]]).bind fun x34 =>
 (zi (x34)).bind fun x35 =>
 (zg x35).bind fun x36 =>
 (zl (x36.1)).bind fun x37 =>
 (zg x36.2).bind fun x38 =>
 (asInt .i64 (x38.1)).bind fun x39 =>
 (zg x38.2).bind fun x40 =>
 (asInt .i64 (x40.1)).bind fun x41 =>
 (zh x40.2).bind fun x42 =>
 (C.p (.func 17) [.agg [.slice .any x7, .int .i64 x9, .int .i64 x11], .agg [.slice .any x16, .int .i64 x18, .int .i64 x20]]).bind fun x43 =>
 (zi (x43)).bind fun x44 =>
 (zg x44).bind fun x45 =>
 (zl (x45.1)).bind fun x46 =>
 (zg x45.2).bind fun x47 =>
 (asInt .i64 (x47.1)).bind fun x48 =>
 (zg x47.2).bind fun x49 =>
 (asInt .i64 (x49.1)).bind fun x50 =>
 (zh x49.2).bind fun x51 =>
 (C.p (.func 15) [.agg [.slice .any x37, .int .i64 x39, .int .i64 x41], .agg [.slice .any x46, .int .i64 x48, .int .i64 x50]]).bind fun x52 =>
 (asBool (x52)).bind fun x53 =>
 cond x53 (
 (C.p (.func 18) [.agg [.slice .any x7, .int .i64 x9, .int .i64 x11], .agg [.slice .any x16, .int .i64 x18, .int .i64 x20]]).bind fun x54 =>
 (zi (x54)).bind fun x55 =>
 (zg x55).bind fun x56 =>
 (zl (x56.1)).bind fun x57 =>
 (zg x56.2).bind fun x58 =>
 (asInt .i64 (x58.1)).bind fun x59 =>
 (zg x58.2).bind fun x60 =>
 (asInt .i64 (x60.1)).bind fun x61 =>
 (zh x60.2).bind fun x62 =>
 (C.p (.func 19) [.agg [.slice .any x7, .int .i64 x9, .int .i64 x11], .agg [.slice .any x16, .int .i64 x18, .int .i64 x20]]).bind fun x63 =>
 (zi (x63)).bind fun x64 =>
 (zg x64).bind fun x65 =>
 (zl (x65.1)).bind fun x66 =>
 (zg x65.2).bind fun x67 =>
 (asInt .i64 (x67.1)).bind fun x68 =>
 (zg x67.2).bind fun x69 =>
 (asInt .i64 (x69.1)).bind fun x70 =>
 (zh x69.2).bind fun x71 =>
 (C.p (.func 15) [.agg [.slice .any x57, .int .i64 x59, .int .i64 x61], .agg [.slice .any x66, .int .i64 x68, .int .i64 x70]]).bind fun x72 =>
 (asBool (x72)).bind fun x73 =>
 cond x73 (
 (C.p (.func 20) [.agg [.slice .any x7, .int .i64 x9, .int .i64 x11]]).bind fun x74 =>
 (zi (x74)).bind fun x75 =>
 (zg x75).bind fun x76 =>
 (zl (x76.1)).bind fun x77 =>
 (zg x76.2).bind fun x78 =>
 (asInt .i64 (x78.1)).bind fun x79 =>
 (zg x78.2).bind fun x80 =>
 (asInt .i64 (x80.1)).bind fun x81 =>
 (zh x80.2).bind fun x82 =>
 (C.p (.func 21) [.agg [.slice .any x7, .int .i64 x9, .int .i64 x11]]).bind fun x83 =>
 (zi (x83)).bind fun x84 =>
 (zg x84).bind fun x85 =>
 (zl (x85.1)).bind fun x86 =>
 (zg x85.2).bind fun x87 =>
 (asInt .i64 (x87.1)).bind fun x88 =>
 (zg x87.2).bind fun x89 =>
 (asInt .i64 (x89.1)).bind fun x90 =>
 (zh x89.2).bind fun x91 =>
 (C.p (.func 15) [.agg [.slice .any x77, .int .i64 x79, .int .i64 x81], .agg [.slice .any x86, .int .i64 x88, .int .i64 x90]]).bind fun x92 =>
 (asBool (x92)).bind fun x93 =>
 cond x93 (
 (C.p (.func 22) [.agg [.slice .any x7, .int .i64 x9, .int .i64 x11], .agg [.slice .any x16, .int .i64 x18, .int .i64 x20], .int .i64 (IntKind.wrap .i64 (Int.tmod n9 7))]).bind fun x94 =>
 (zi (x94)).bind fun x95 =>
 (zg x95).bind fun x96 =>
 (zl (x96.1)).bind fun x97 =>
 (zg x96.2).bind fun x98 =>
 (asInt .i64 (x98.1)).bind fun x99 =>
 (zg x98.2).bind fun x100 =>
 (asInt .i64 (x100.1)).bind fun x101 =>
 (zh x100.2).bind fun x102 =>
 (C.p (.func 23) [.agg [.slice .any x7, .int .i64 x9, .int .i64 x11], .agg [.slice .any x16, .int .i64 x18, .int .i64 x20], .int .i64 (IntKind.wrap .i64 (Int.tmod n9 7))]).bind fun x103 =>
 (zi (x103)).bind fun x104 =>
 (zg x104).bind fun x105 =>
 (zl (x105.1)).bind fun x106 =>
 (zg x105.2).bind fun x107 =>
 (asInt .i64 (x107.1)).bind fun x108 =>
 (zg x107.2).bind fun x109 =>
 (asInt .i64 (x109.1)).bind fun x110 =>
 (zh x109.2).bind fun x111 =>
 (C.p (.func 15) [.agg [.slice .any x97, .int .i64 x99, .int .i64 x101], .agg [.slice .any x106, .int .i64 x108, .int .i64 x110]]).bind fun x112 =>
 (asBool (x112)).bind fun x113 =>
 cond x113 (
 (C.p (.func 24) [.agg [.slice .any x7, .int .i64 x9, .int .i64 x11], .agg [.int .i64 x26, .int .i64 x28]]).bind fun x114 =>
 (zi (x114)).bind fun x115 =>
 (zg x115).bind fun x116 =>
 (zl (x116.1)).bind fun x117 =>
 (zg x116.2).bind fun x118 =>
 (asInt .i64 (x118.1)).bind fun x119 =>
 (zg x118.2).bind fun x120 =>
 (asInt .i64 (x120.1)).bind fun x121 =>
 (zh x120.2).bind fun x122 =>
 (C.p (.func 25) [.agg [.slice .any x7, .int .i64 x9, .int .i64 x11], .agg [.int .i64 x26, .int .i64 x28]]).bind fun x123 =>
 (zi (x123)).bind fun x124 =>
 (zg x124).bind fun x125 =>
 (zl (x125.1)).bind fun x126 =>
 (zg x125.2).bind fun x127 =>
 (asInt .i64 (x127.1)).bind fun x128 =>
 (zg x127.2).bind fun x129 =>
 (asInt .i64 (x129.1)).bind fun x130 =>
 (zh x129.2).bind fun x131 =>
 (C.p (.func 15) [.agg [.slice .any x117, .int .i64 x119, .int .i64 x121], .agg [.slice .any x126, .int .i64 x128, .int .i64 x130]]).bind fun x132 =>
 (asBool (x132)).bind fun x133 =>
 cond x133 (
 (C.p (.func 26) [.agg [.slice .any x7, .int .i64 x9, .int .i64 x11], .int .i64 (IntKind.wrap .i64 (Int.tmod n9 7))]).bind fun x134 =>
 (zi (x134)).bind fun x135 =>
 (zg x135).bind fun x136 =>
 (zl (x136.1)).bind fun x137 =>
 (zg x136.2).bind fun x138 =>
 (asInt .i64 (x138.1)).bind fun x139 =>
 (zg x138.2).bind fun x140 =>
 (asInt .i64 (x140.1)).bind fun x141 =>
 (zh x140.2).bind fun x142 =>
 (C.p (.func 27) [.agg [.slice .any x7, .int .i64 x9, .int .i64 x11], .int .i64 (IntKind.wrap .i64 (Int.tmod n9 7))]).bind fun x143 =>
 (zi (x143)).bind fun x144 =>
 (zg x144).bind fun x145 =>
 (zl (x145.1)).bind fun x146 =>
 (zg x145.2).bind fun x147 =>
 (asInt .i64 (x147.1)).bind fun x148 =>
 (zg x147.2).bind fun x149 =>
 (asInt .i64 (x149.1)).bind fun x150 =>
 (zh x149.2).bind fun x151 =>
 (C.p (.func 15) [.agg [.slice .any x137, .int .i64 x139, .int .i64 x141], .agg [.slice .any x146, .int .i64 x148, .int .i64 x150]]).bind fun x152 =>
 (asBool (x152)).bind fun x153 =>
 cond x153 (
 (C.p (.func 28) [.agg [.slice .any x7, .int .i64 x9, .int .i64 x11]]).bind fun x154 =>
 (zi (x154)).bind fun x155 =>
 (zg x155).bind fun x156 =>
 (asInt .i64 (x156.1)).bind fun x157 =>
 (zg x156.2).bind fun x158 =>
 (asInt .i64 (x158.1)).bind fun x159 =>
 (zh x158.2).bind fun x160 =>
 (C.p (.func 29) [.agg [.slice .any x7, .int .i64 x9, .int .i64 x11]]).bind fun x161 =>
 (zi (x161)).bind fun x162 =>
 (zg x162).bind fun x163 =>
 (asInt .i64 (x163.1)).bind fun x164 =>
 (zg x163.2).bind fun x165 =>
 (asInt .i64 (x165.1)).bind fun x166 =>
 (zh x165.2).bind fun x167 =>
 some (.bool ((x157 == x164) && ((x159 == x166) && true)), [])) (
 some (.bool false, []))) (
 some (.bool false, []))) (
 some (.bool false, []))) (
 some (.bool false, []))) (
 some (.bool false, []))) (
 some (.bool false, []))) (
 some (.bool false, []))) (
 some (.bool false, []))) := by kernel_rfl
end Go.Ab
