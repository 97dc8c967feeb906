/- What one call of each function does, written out: by evaluation; conditions: none. -/
import Derived.KernelRfl
import Derived.Test.YtpalbaaghplhnaaGreatDoorT
set_option linter.unusedVariables false
set_option linter.unusedSimpArgs false
namespace Go.Ab
set_option maxHeartbeats 2000000
set_option maxRecDepth 100000
def zme (p0 : Int) (p1 : List (List V)) (p2 : Bool) (p3 : Int) (p4 : Int) (p5 : List (List V)) (p6 : Int) (p7 : Int) (p8 : Nat) (p9 : Int) (p10 : List (List V)) : St := ⟨(sp 0 69 [(1, .int .u8 p0), (3, .slice .any p1), (9, .bool p2), (10, .box [.int .i64 p3, .int .i64 p4]), (11, .box [.slice .any p5, .int .i64 p6, .int .i64 p7]), (12, .arr 0 p8 2), (13, .int .i64 p9)]), [.arr true 2 p10]⟩
theorem e4_6 (C : CallT) (r0 : List (List V)) (n1 : Int) (r2 : List (List V)) (b3 : Bool) (n4 : Int) (n5 : Int) (r6 : List (List V)) (n7 : Int) (n8 : Int) (n9 : Int) : zp GZ LZ C 4 none 6 (zme n1 r2 b3 n4 n5 r6 n7 n8 r0.length n9 r0) =
 cond (decide (n9 < 6)) (
 cond (decide (n9 < ((r2.length : Nat) : Int))) (
 (zS r2 n9 2).bind fun x0 =>
 (zg x0).bind fun x1 =>
 (asInt .i64 (x1.1)).bind fun x2 =>
 (zg x1.2).bind fun x3 =>
 (asInt .i64 (x3.1)).bind fun x4 =>
 (zh x3.2).bind fun x5 =>
 (C.p (.func 31) [.agg [.int .i64 x2, .int .i64 x4]]).bind fun x6 =>
 (zi (x6)).bind fun x7 =>
 (zg x7).bind fun x8 =>
 (asInt .i64 (x8.1)).bind fun x9 =>
 (zg x8.2).bind fun x10 =>
 (asInt .i64 (x10.1)).bind fun x11 =>
 (zh x10.2).bind fun x12 =>
 cond (decide (r0.length = r0.length)) (
 cond (decide (((r0.length + 1) * 16) ≤ zag)) (
 some (.normal, (zme n1 r2 b3 n4 n5 r6 n7 n8 (r0.length + 1) (IntKind.wrap .i64 (n9 + 1)) (List.append r0 [[.int .i64 x9, .int .i64 x11]])))) (
 none)) (
 none)) (
 cond (decide (r0.length = r0.length)) (
 cond (decide (((r0.length + 1) * 16) ≤ zag)) (
 some (.normal, (zme n1 r2 b3 n4 n5 r6 n7 n8 (r0.length + 1) (IntKind.wrap .i64 (n9 + 1)) (List.append r0 [[.int .i64 0, .int .i64 0]])))) (
 none)) (
 none))) (
 some ((.exit 0), (zme n1 r2 b3 n4 n5 r6 n7 n8 r0.length n9 r0))) := by kernel_rfl
theorem e4 (C : CallT) (n0 : Int) (n1 : Int) (n2 : Int) (r3 : List (List V)) (n4 : Int) (n5 : Int) (r6 : List (List V)) : zO GZ LZ C (.func 4) [.agg [.int .i64 n0, .int .i64 n1], .int .u8 n2, .agg [.slice .any r3, .int .i64 n4, .int .i64 n5], .slice .any r6] [] =
 (C.p (.func 10) []).bind fun x0 =>
 (asBool (x0)).bind fun x1 =>
 (C.p (.func 12) [.agg [.int .i64 n0, .int .i64 n1]]).bind fun x2 =>
 (zi (x2)).bind fun x3 =>
 (zg x3).bind fun x4 =>
 (asInt .i64 (x4.1)).bind fun x5 =>
 (zg x4.2).bind fun x6 =>
 (asInt .i64 (x6.1)).bind fun x7 =>
 (zh x6.2).bind fun x8 =>
 (C.p (.func 30) [.agg [.slice .any r3, .int .i64 n4, .int .i64 n5]]).bind fun x9 =>
 (zi (x9)).bind fun x10 =>
 (zg x10).bind fun x11 =>
 (zl (x11.1)).bind fun x12 =>
 (zg x11.2).bind fun x13 =>
 (asInt .i64 (x13.1)).bind fun x14 =>
 (zg x13.2).bind fun x15 =>
 (asInt .i64 (x15.1)).bind fun x16 =>
 (zh x15.2).bind fun x17 =>
 (C.w (zp GZ LZ C 4 none 6) (zme n2 r6 x1 x5 x7 x12 x14 x16 0 0 [])).bind fun x18 =>
 match x18.1 with
 | .normal =>
 none
 | .exit x20 =>
 cond (Nat.beq x20 0) (
 (asInt .u8 ((nth x18.2.t 1))).bind fun x21 =>
 (zl ((nth x18.2.t 3))).bind fun x22 =>
 (asBool ((nth x18.2.t 9))).bind fun x23 =>
 (zai ((nth x18.2.t 10))).bind fun x24 =>
 (zg x24).bind fun x25 =>
 (asInt .i64 (x25.1)).bind fun x26 =>
 (zg x25.2).bind fun x27 =>
 (asInt .i64 (x27.1)).bind fun x28 =>
 (zh x27.2).bind fun x29 =>
 (zai ((nth x18.2.t 11))).bind fun x30 =>
 (zg x30).bind fun x31 =>
 (zl (x31.1)).bind fun x32 =>
 (zg x31.2).bind fun x33 =>
 (asInt .i64 (x33.1)).bind fun x34 =>
 (zg x33.2).bind fun x35 =>
 (asInt .i64 (x35.1)).bind fun x36 =>
 (zh x35.2).bind fun x37 =>
 (zcn 0 2 ((nth x18.2.t 12))).bind fun x38 =>
 (asInt .i64 ((nth x18.2.t 13))).bind fun x39 =>
 (zJ x18.2.h).bind fun x40 =>
 (zaU true 2 x40.1).bind fun x41 =>
 (zak [.arr true 2 x41] 0 x38).bind fun x42 =>
 cond x23 (
 (C.p (.func 32) [.agg [.int .i64 x26, .int .i64 x28]]).bind fun x43 =>
 (zi (x43)).bind fun x44 =>
 (zg x44).bind fun x45 =>
 (zl (x45.1)).bind fun x46 =>
 (zg x45.2).bind fun x47 =>
 (asInt .i64 (x47.1)).bind fun x48 =>
 (zg x47.2).bind fun x49 =>
 (asInt .i64 (x49.1)).bind fun x50 =>
 (zh x49.2).bind fun x51 =>
 (C.p (.func 33) [.agg [.int .i64 x26, .int .i64 x28]]).bind fun x52 =>
 (zi (x52)).bind fun x53 =>
 (zg x53).bind fun x54 =>
 (zl (x54.1)).bind fun x55 =>
 (zg x54.2).bind fun x56 =>
 (asInt .i64 (x56.1)).bind fun x57 =>
 (zg x56.2).bind fun x58 =>
 (asInt .i64 (x58.1)).bind fun x59 =>
 (zh x58.2).bind fun x60 =>
 (C.p (.func 15) [.agg [.slice .any x46, .int .i64 x48, .int .i64 x50], .agg [.slice .any x55, .int .i64 x57, .int .i64 x59]]).bind fun x61 =>
 (asBool (x61)).bind fun x62 =>
 cond x62 (
 (C.p (.func 34) [.int .i64 (IntKind.wrap .i64 (Int.tmod x21 6)), .agg [.int .i64 x26, .int .i64 x28]]).bind fun x63 =>
 (zi (x63)).bind fun x64 =>
 (zg x64).bind fun x65 =>
 (zl (x65.1)).bind fun x66 =>
 (zg x65.2).bind fun x67 =>
 (asInt .i64 (x67.1)).bind fun x68 =>
 (zg x67.2).bind fun x69 =>
 (asInt .i64 (x69.1)).bind fun x70 =>
 (zh x69.2).bind fun x71 =>
 (C.p (.func 35) [.int .i64 (IntKind.wrap .i64 (Int.tmod x21 6)), .agg [.int .i64 x26, .int .i64 x28]]).bind fun x72 =>
 (zi (x72)).bind fun x73 =>
 (zg x73).bind fun x74 =>
 (zl (x74.1)).bind fun x75 =>
 (zg x74.2).bind fun x76 =>
 (asInt .i64 (x76.1)).bind fun x77 =>
 (zg x76.2).bind fun x78 =>
 (asInt .i64 (x78.1)).bind fun x79 =>
 (zh x78.2).bind fun x80 =>
 (C.p (.func 15) [.agg [.slice .any x66, .int .i64 x68, .int .i64 x70], .agg [.slice .any x75, .int .i64 x77, .int .i64 x79]]).bind fun x81 =>
 (asBool (x81)).bind fun x82 =>
 cond x82 (
 (C.p (.func 36) [.agg [.slice .any x32, .int .i64 x34, .int .i64 x36], .slice .any x42]).bind fun x83 =>
 (zi (x83)).bind fun x84 =>
 (zg x84).bind fun x85 =>
 (asInt .i64 (x85.1)).bind fun x86 =>
 (zg x85.2).bind fun x87 =>
 (asInt .i64 (x87.1)).bind fun x88 =>
 (zh x87.2).bind fun x89 =>
 (C.p (.func 37) [.agg [.slice .any x32, .int .i64 x34, .int .i64 x36], .slice .any x42]).bind fun x90 =>
 (zi (x90)).bind fun x91 =>
 (zg x91).bind fun x92 =>
 (asInt .i64 (x92.1)).bind fun x93 =>
 (zg x92.2).bind fun x94 =>
 (asInt .i64 (x94.1)).bind fun x95 =>
 (zh x94.2).bind fun x96 =>
 some (.bool ((x86 == x93) && ((x88 == x95) && true)), [.arr false 2 x41])) (
 some (.bool false, [.arr false 2 x41]))) (
 some (.bool false, [.arr false 2 x41]))) (
 some (.bool false, [.arr false 2 x41]))) (
 none)
 | .ret =>
 none := by kernel_rfl
end Go.Ab
