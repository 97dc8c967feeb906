/- What one call of each function does, written out: by evaluation; conditions: none. -/
import Derived.KernelRfl
import Derived.Test.YtpalbaaghplhnaaGreatDoorT
set_option linter.unusedVariables false
set_option linter.unusedSimpArgs false
namespace Go.Ab
set_option maxHeartbeats 2000000
set_option maxRecDepth 100000
def zbi (p0 : List (List V)) (p1 : List (List V)) (p2 : Int) (p3 : List (List V)) (p4 : Int) (p5 : Int) : St := ⟨(sp 0 36 [(0, .slice .any p0), (1, .slice .any p1), (4, .int .i64 p2), (9, .slice .any p3), (10, .int .i64 p4), (11, .int .i64 p5)]), []⟩
theorem e109_2 (C : CallT) (r0 : List (List V)) (r1 : List (List V)) (n2 : Int) (r3 : List (List V)) (n4 : Int) (n5 : Int) : zp GZ LZ C 109 none 2 (zbi r0 r1 n2 r3 n4 n5) =
 cond (decide (n5 < n4)) (
 (zS r3 n5 1).bind fun x0 =>
 (zg x0).bind fun x1 =>
 (asInt .u8 (x1.1)).bind fun x2 =>
 (zh x1.2).bind fun x3 =>
 cond (decide (n5 ≥ ((r1.length : Nat) : Int))) (
 some (.ret, (zbi r0 r1 1 r3 n4 n5))) (
 (zS r1 n5 1).bind fun x4 =>
 (zg x4).bind fun x5 =>
 (asInt .u8 (x5.1)).bind fun x6 =>
 (zh x5.2).bind fun x7 =>
 (C.p (.func 118) [.int .u8 x2, .int .u8 x6]).bind fun x8 =>
 (asInt .i64 (x8)).bind fun x9 =>
 cond (x9 != 0) (
 some (.ret, (zbi r0 r1 x9 r3 n4 n5))) (
 some (.normal, (zbi r0 r1 n2 r3 n4 (IntKind.wrap .i64 (n5 + 1))))))) (
 some ((.exit 0), (zbi r0 r1 n2 r3 n4 n5))) := by kernel_rfl
theorem e109 (C : CallT) (r0 : List (List V)) (r1 : List (List V)) : zO GZ LZ C (.func 109) [.slice .any r0, .slice .any r1] [] =
 (C.w (zp GZ LZ C 109 none 2) (zbi r0 r1 0 r0 ((r0.length : Nat) : Int) 0)).bind fun x0 =>
 match x0.1 with
 | .normal =>
 none
 | .exit x2 =>
 cond (Nat.beq x2 0) (
 (zl ((nth x0.2.t 0))).bind fun x3 =>
 (zl ((nth x0.2.t 1))).bind fun x4 =>
 (asInt .i64 ((nth x0.2.t 4))).bind fun x5 =>
 (zl ((nth x0.2.t 9))).bind fun x6 =>
 (asInt .i64 ((nth x0.2.t 10))).bind fun x7 =>
 (asInt .i64 ((nth x0.2.t 11))).bind fun x8 =>
 cond (decide (((x3.length : Nat) : Int) < ((x4.length : Nat) : Int))) (
 some (.int .i64 (-1), [])) (
 some (.int .i64 0, []))) (
 none)
 | .ret =>
 (zl ((nth x0.2.t 0))).bind fun x9 =>
 (zl ((nth x0.2.t 1))).bind fun x10 =>
 (asInt .i64 ((nth x0.2.t 4))).bind fun x11 =>
 (zl ((nth x0.2.t 9))).bind fun x12 =>
 (asInt .i64 ((nth x0.2.t 10))).bind fun x13 =>
 (asInt .i64 ((nth x0.2.t 11))).bind fun x14 =>
 some (.int .i64 x11, []) := by kernel_rfl
theorem e118 (C : CallT) (n0 : Int) (n1 : Int) : zO GZ LZ C (.func 118) [.int .u8 n0, .int .u8 n1] [] =
 (C.p (.func 127) [.int .u8 n0]).bind fun x0 =>
 (asBool (x0)).bind fun x1 =>
 (C.p (.func 127) [.int .u8 n1]).bind fun x2 =>
 (asBool (x2)).bind fun x3 =>
 cond x1 (
 cond x3 (
 some (.int .i64 0, [])) (
 some (.int .i64 (-1), []))) (
 cond x3 (
 some (.int .i64 1, [])) (
 cond (decide (n0 < n1)) (
 some (.int .i64 (-1), [])) (
 cond (decide (n0 > n1)) (
 some (.int .i64 1, [])) (
 some (.int .i64 0, []))))) := by kernel_rfl
theorem e127 (C : CallT) (n0 : Int) : zO GZ LZ C (.func 127) [.int .u8 n0] [] =
 some (.bool (n0 != n0), []) := by kernel_rfl
def S128_2 (p0 : List (List V)) (p1 : Int) (p2 : Int) (p3 : Int) : St := ⟨(sp 0 19 [(0, .slice .any p0), (1, .nilfn), (4, .int .i64 p1), (7, .int .i64 p2), (8, .int .i64 p3)]), []⟩
def zbB (p0 : List (List V)) (p1 : Int) (p2 : Int) (p3 : Int) : St := ⟨(sp 0 19 [(0, .slice .any p0), (1, .fn (.func 122) [] []), (4, .int .i64 p1), (7, .int .i64 p2), (8, .int .i64 p3)]), []⟩
theorem ziO (C : CallT) (r0 : List (List V)) (n1 : Int) (n2 : Int) (n3 : Int) : zp GZ LZ C 128 none 2 (zbB r0 n1 n2 n3) =
 cond (decide (n3 < n2)) (
 (zS r0 n3 1).bind fun x0 =>
 (zg x0).bind fun x1 =>
 (asInt .u8 (x1.1)).bind fun x2 =>
 (zh x1.2).bind fun x3 =>
 (C.p (.func 122) [.int .u8 x2]).bind fun x4 =>
 (asBool (x4)).bind fun x5 =>
 cond x5 (
 some (.ret, (zbB r0 n3 n2 n3))) (
 some (.normal, (zbB r0 n1 n2 (IntKind.wrap .i64 (n3 + 1)))))) (
 some ((.exit 0), (zbB r0 n1 n2 n3))) := by kernel_rfl
theorem p128 (C : CallT) (r0 : List (List V)) : zO GZ LZ C (.func 128) [.slice .any r0, .fn (.func 122) [] []] [] =
 (C.w (zp GZ LZ C 128 none 2) (zbB r0 0 ((r0.length : Nat) : Int) 0)).bind fun x0 =>
 match x0.1 with
 | .normal =>
 none
 | .exit x2 =>
 cond (Nat.beq x2 0) (
 (zl ((nth x0.2.t 0))).bind fun x3 =>
 (zcm (.func 122) ((nth x0.2.t 1))).bind fun x4 =>
 (zh x4.1).bind fun x5 =>
 (zh x4.2).bind fun x6 =>
 (asInt .i64 ((nth x0.2.t 4))).bind fun x7 =>
 (asInt .i64 ((nth x0.2.t 7))).bind fun x8 =>
 (asInt .i64 ((nth x0.2.t 8))).bind fun x9 =>
 some (.int .i64 (-1), [])) (
 none)
 | .ret =>
 (zl ((nth x0.2.t 0))).bind fun x10 =>
 (zcm (.func 122) ((nth x0.2.t 1))).bind fun x11 =>
 (zh x11.1).bind fun x12 =>
 (zh x11.2).bind fun x13 =>
 (asInt .i64 ((nth x0.2.t 4))).bind fun x14 =>
 (asInt .i64 ((nth x0.2.t 7))).bind fun x15 =>
 (asInt .i64 ((nth x0.2.t 8))).bind fun x16 =>
 some (.int .i64 x14, []) := by kernel_rfl
theorem p121 (C : CallT) (r0 : List (List V)) : zO GZ LZ C (.func 121) [.slice .any r0, .fn (.func 122) [] []] [] =
 (C.p (.func 128) [.slice .any r0, .fn (.func 122) [] []]).bind fun x0 =>
 (asInt .i64 (x0)).bind fun x1 =>
 some (.bool (decide (x1 ≥ 0)), []) := by kernel_rfl
theorem e111 (C : CallT) (n0 : Int) (n1 : Int) (n2 : Int) (n3 : Int) (n4 : Int) (n5 : Int) : zO GZ LZ C (.func 111) [.agg [.int .u8 n0, .int .u8 n1, .int .u8 n2, .int .u8 n3, .int .u8 n4, .int .u8 n5]] [] =
 (C.p (.func 121) [.slice .any [[.int .u8 n0], [.int .u8 n1], [.int .u8 n2], [.int .u8 n3], [.int .u8 n4], [.int .u8 n5]], .fn (.func 122) [] []]).bind fun x0 =>
 (asBool (x0)).bind fun x1 =>
 some (.bool x1, [.arr false 1 [[.int .u8 n0], [.int .u8 n1], [.int .u8 n2], [.int .u8 n3], [.int .u8 n4], [.int .u8 n5]]]) := by kernel_rfl
theorem e122 (C : CallT) (n0 : Int) : zO GZ LZ C (.func 122) [.int .u8 n0] [] =
 some (.bool ((Int.tmod n0 2) == 1), []) := by kernel_rfl
def zgT (p0 : Int) (p1 : Int) (p2 : Int) (p3 : Int) (p4 : Int) (p5 : Int) (p6 : Int) (p7 : Int) : St := ⟨(sp 0 16 [(3, .int .i64 p0), (6, .agg [.int .u8 p1, .int .u8 p2, .int .u8 p3, .int .u8 p4, .int .u8 p5, .int .u8 p6]), (7, .int .i64 p7)]), []⟩
theorem e91_3 (C : CallT) (n0 : Int) (n1 : Int) (n2 : Int) (n3 : Int) (n4 : Int) (n5 : Int) (n6 : Int) (n7 : Int) : zp GZ LZ C 91 none 3 (zgT n0 n1 n2 n3 n4 n5 n6 n7) =
 cond (decide (n7 < 6)) (
 cond (decide (0 ≤ n7)) (
 cond (decide (n7.toNat < 6)) (
 (za5 [n1, n2, n3, n4, n5, n6] (n7.toNat * 1)).bind fun x0 =>
 some (.normal, (zgT (IntKind.wrap .i64 (n0 + (IntKind.wrap .i64 x0))) n1 n2 n3 n4 n5 n6 (IntKind.wrap .i64 (n7 + 1))))) (
 none)) (
 none)) (
 some ((.exit 0), (zgT n0 n1 n2 n3 n4 n5 n6 n7))) := by kernel_rfl
theorem e91 (C : CallT) (n0 : Int) (n1 : Int) (n2 : Int) (n3 : Int) (n4 : Int) (n5 : Int) : zO GZ LZ C (.func 91) [.agg [.int .u8 n0, .int .u8 n1, .int .u8 n2, .int .u8 n3, .int .u8 n4, .int .u8 n5]] [] =
 (C.w (zp GZ LZ C 91 none 3) (zgT 0 n0 n1 n2 n3 n4 n5 0)).bind fun x0 =>
 match x0.1 with
 | .normal =>
 none
 | .exit x2 =>
 cond (Nat.beq x2 0) (
 (asInt .i64 ((nth x0.2.t 3))).bind fun x3 =>
 (zi ((nth x0.2.t 6))).bind fun x4 =>
 (zg x4).bind fun x5 =>
 (asInt .u8 (x5.1)).bind fun x6 =>
 (zg x5.2).bind fun x7 =>
 (asInt .u8 (x7.1)).bind fun x8 =>
 (zg x7.2).bind fun x9 =>
 (asInt .u8 (x9.1)).bind fun x10 =>
 (zg x9.2).bind fun x11 =>
 (asInt .u8 (x11.1)).bind fun x12 =>
 (zg x11.2).bind fun x13 =>
 (asInt .u8 (x13.1)).bind fun x14 =>
 (zg x13.2).bind fun x15 =>
 (asInt .u8 (x15.1)).bind fun x16 =>
 (zh x15.2).bind fun x17 =>
 (asInt .i64 ((nth x0.2.t 7))).bind fun x18 =>
 some (.int .i64 x3, [])) (
 none)
 | .ret =>
 none := by kernel_rfl
theorem e92 (C : CallT) (n0 : Int) (n1 : Int) (n2 : Int) (n3 : Int) (n4 : Int) (n5 : Int) (n6 : Int) (n7 : Int) (n8 : Int) (n9 : Int) (n10 : Int) (n11 : Int) : zO GZ LZ C (.func 92) [.agg [.int .u8 n0, .int .u8 n1, .int .u8 n2, .int .u8 n3, .int .u8 n4, .int .u8 n5], .agg [.int .u8 n6, .int .u8 n7, .int .u8 n8, .int .u8 n9, .int .u8 n10, .int .u8 n11]] [] =
 (C.p (.func 109) [.slice .any [[.int .u8 n0], [.int .u8 n1], [.int .u8 n2], [.int .u8 n3], [.int .u8 n4], [.int .u8 n5]], .slice .any [[.int .u8 n6], [.int .u8 n7], [.int .u8 n8], [.int .u8 n9], [.int .u8 n10], [.int .u8 n11]]]).bind fun x0 =>
 (asInt .i64 (x0)).bind fun x1 =>
 some (.int .i64 x1, [.arr false 1 [[.int .u8 n0], [.int .u8 n1], [.int .u8 n2], [.int .u8 n3], [.int .u8 n4], [.int .u8 n5]], .arr false 1 [[.int .u8 n6], [.int .u8 n7], [.int .u8 n8], [.int .u8 n9], [.int .u8 n10], [.int .u8 n11]]]) := by kernel_rfl
def zc2 (p0 : List (List V)) (p1 : Bool) (p2 : List (List V)) (p3 : Int) (p4 : Int) : St := ⟨(sp 0 47 [(0, .slice .any p0), (2, .bool p1), (5, .slice .any p2), (6, .int .i64 p3), (7, .int .i64 p4)]), []⟩
theorem e50_2 (C : CallT) (r0 : List (List V)) (b1 : Bool) (r2 : List (List V)) (n3 : Int) (n4 : Int) : zp GZ LZ C 50 none 2 (zc2 r0 b1 r2 n3 n4) =
 cond (decide (n4 < n3)) (
 (zS r2 n4 7).bind fun x0 =>
 (zg x0).bind fun x1 =>
 (asInt .i64 (x1.1)).bind fun x2 =>
 (zg x1.2).bind fun x3 =>
 (asInt .u8 (x3.1)).bind fun x4 =>
 (zg x3.2).bind fun x5 =>
 (asInt .u8 (x5.1)).bind fun x6 =>
 (zg x5.2).bind fun x7 =>
 (asInt .u8 (x7.1)).bind fun x8 =>
 (zg x7.2).bind fun x9 =>
 (asInt .u8 (x9.1)).bind fun x10 =>
 (zg x9.2).bind fun x11 =>
 (asInt .u8 (x11.1)).bind fun x12 =>
 (zg x11.2).bind fun x13 =>
 (asInt .u8 (x13.1)).bind fun x14 =>
 (zh x13.2).bind fun x15 =>
 (C.p (.func 90) [.int .i64 x2]).bind fun x16 =>
 (asBool (x16)).bind fun x17 =>
 cond (!x17) (
 some (.ret, (zc2 r0 false r2 n3 n4))) (
 cond (x2 == 0) (
 some (.ret, (zc2 r0 false r2 n3 n4))) (
 (C.p (.func 91) [.agg [.int .u8 x4, .int .u8 x6, .int .u8 x8, .int .u8 x10, .int .u8 x12, .int .u8 x14]]).bind fun x18 =>
 (asInt .i64 (x18)).bind fun x19 =>
 cond (decide (x19 > 6)) (
 some (.ret, (zc2 r0 false r2 n3 n4))) (
 cond (decide (n4 > 0)) (
 (zS r0 (IntKind.wrap .i64 (n4 - 1)) 7).bind fun x20 =>
 (zg x20).bind fun x21 =>
 (asInt .i64 (x21.1)).bind fun x22 =>
 (zg x21.2).bind fun x23 =>
 (asInt .u8 (x23.1)).bind fun x24 =>
 (zg x23.2).bind fun x25 =>
 (asInt .u8 (x25.1)).bind fun x26 =>
 (zg x25.2).bind fun x27 =>
 (asInt .u8 (x27.1)).bind fun x28 =>
 (zg x27.2).bind fun x29 =>
 (asInt .u8 (x29.1)).bind fun x30 =>
 (zg x29.2).bind fun x31 =>
 (asInt .u8 (x31.1)).bind fun x32 =>
 (zg x31.2).bind fun x33 =>
 (asInt .u8 (x33.1)).bind fun x34 =>
 (zh x33.2).bind fun x35 =>
 (C.p (.func 92) [.agg [.int .u8 x24, .int .u8 x26, .int .u8 x28, .int .u8 x30, .int .u8 x32, .int .u8 x34], .agg [.int .u8 x4, .int .u8 x6, .int .u8 x8, .int .u8 x10, .int .u8 x12, .int .u8 x14]]).bind fun x36 =>
 (asInt .i64 (x36)).bind fun x37 =>
 cond (decide (x37 ≥ 0)) (
 some (.ret, (zc2 r0 false r2 n3 n4))) (
 some (.normal, (zc2 r0 b1 r2 n3 (IntKind.wrap .i64 (n4 + 1)))))) (
 some (.normal, (zc2 r0 b1 r2 n3 (IntKind.wrap .i64 (n4 + 1))))))))) (
 some ((.exit 0), (zc2 r0 b1 r2 n3 n4))) := by kernel_rfl
theorem e50 (C : CallT) (r0 : List (List V)) : zO GZ LZ C (.func 50) [.slice .any r0] [] =
 (C.w (zp GZ LZ C 50 none 2) (zc2 r0 false r0 ((r0.length : Nat) : Int) 0)).bind fun x0 =>
 match x0.1 with
 | .normal =>
 none
 | .exit x2 =>
 cond (Nat.beq x2 0) (
 (zl ((nth x0.2.t 0))).bind fun x3 =>
 (asBool ((nth x0.2.t 2))).bind fun x4 =>
 (zl ((nth x0.2.t 5))).bind fun x5 =>
 (asInt .i64 ((nth x0.2.t 6))).bind fun x6 =>
 (asInt .i64 ((nth x0.2.t 7))).bind fun x7 =>
 some (.bool (decide (((x3.length : Nat) : Int) ≤ 100)), [])) (
 none)
 | .ret =>
 (zl ((nth x0.2.t 0))).bind fun x8 =>
 (asBool ((nth x0.2.t 2))).bind fun x9 =>
 (zl ((nth x0.2.t 5))).bind fun x10 =>
 (asInt .i64 ((nth x0.2.t 6))).bind fun x11 =>
 (asInt .i64 ((nth x0.2.t 7))).bind fun x12 =>
 some (.bool x9, []) := by kernel_rfl
def zbR (p0 : List (List V)) (p1 : List (List V)) (p2 : Int) (p3 : Int) (p4 : Nat) (p5 : List (List V)) : St := ⟨(sp 0 67 [(0, .slice .any p0), (1, .slice .any p1), (5, .box [.int .i64 p2, .int .i64 p3]), (6, .arr 0 p4 7)]), [.arr true 7 p5]⟩
theorem zqo (C : CallT) (r0 : List (List V)) (r1 : List (List V)) (r2 : List (List V)) (n3 : Int) (n4 : Int) : zp GZ LZ C 54 none 2 (zbR r1 r2 n3 n4 r0.length r0) =
 cond (((r1.length : Nat) : Int) == 0) (
 cond (zaN 7 r2) (
 cond (decide (r0.length = r0.length)) (
 cond (decide (((r0.length + r2.length) * 16) ≤ zag)) (
 some ((.exit 0), (zbR r1 r2 n3 n4 (r0.length + r2.length) (List.append r0 r2)))) (
 none)) (
 none)) (
 none)) (
 cond (((r2.length : Nat) : Int) == 0) (
 cond (zaN 7 r1) (
 cond (decide (r0.length = r0.length)) (
 cond (decide (((r0.length + r1.length) * 16) ≤ zag)) (
 some ((.exit 0), (zbR r1 r2 n3 n4 (r0.length + r1.length) (List.append r0 r1)))) (
 none)) (
 none)) (
 none)) (
 (zS r1 0 7).bind fun x0 =>
 (zg x0).bind fun x1 =>
 (asInt .i64 (x1.1)).bind fun x2 =>
 (zg x1.2).bind fun x3 =>
 (asInt .u8 (x3.1)).bind fun x4 =>
 (zg x3.2).bind fun x5 =>
 (asInt .u8 (x5.1)).bind fun x6 =>
 (zg x5.2).bind fun x7 =>
 (asInt .u8 (x7.1)).bind fun x8 =>
 (zg x7.2).bind fun x9 =>
 (asInt .u8 (x9.1)).bind fun x10 =>
 (zg x9.2).bind fun x11 =>
 (asInt .u8 (x11.1)).bind fun x12 =>
 (zg x11.2).bind fun x13 =>
 (asInt .u8 (x13.1)).bind fun x14 =>
 (zh x13.2).bind fun x15 =>
 (zS r1 0 7).bind fun x16 =>
 (zg x16).bind fun x17 =>
 (asInt .i64 (x17.1)).bind fun x18 =>
 (zg x17.2).bind fun x19 =>
 (asInt .u8 (x19.1)).bind fun x20 =>
 (zg x19.2).bind fun x21 =>
 (asInt .u8 (x21.1)).bind fun x22 =>
 (zg x21.2).bind fun x23 =>
 (asInt .u8 (x23.1)).bind fun x24 =>
 (zg x23.2).bind fun x25 =>
 (asInt .u8 (x25.1)).bind fun x26 =>
 (zg x25.2).bind fun x27 =>
 (asInt .u8 (x27.1)).bind fun x28 =>
 (zg x27.2).bind fun x29 =>
 (asInt .u8 (x29.1)).bind fun x30 =>
 (zh x29.2).bind fun x31 =>
 (zS r2 0 7).bind fun x32 =>
 (zg x32).bind fun x33 =>
 (asInt .i64 (x33.1)).bind fun x34 =>
 (zg x33.2).bind fun x35 =>
 (asInt .u8 (x35.1)).bind fun x36 =>
 (zg x35.2).bind fun x37 =>
 (asInt .u8 (x37.1)).bind fun x38 =>
 (zg x37.2).bind fun x39 =>
 (asInt .u8 (x39.1)).bind fun x40 =>
 (zg x39.2).bind fun x41 =>
 (asInt .u8 (x41.1)).bind fun x42 =>
 (zg x41.2).bind fun x43 =>
 (asInt .u8 (x43.1)).bind fun x44 =>
 (zg x43.2).bind fun x45 =>
 (asInt .u8 (x45.1)).bind fun x46 =>
 (zh x45.2).bind fun x47 =>
 (C.p (.func 92) [.agg [.int .u8 x20, .int .u8 x22, .int .u8 x24, .int .u8 x26, .int .u8 x28, .int .u8 x30], .agg [.int .u8 x36, .int .u8 x38, .int .u8 x40, .int .u8 x42, .int .u8 x44, .int .u8 x46]]).bind fun x48 =>
 (asInt .i64 (x48)).bind fun x49 =>
 cond (decide (x49 > 0)) (
 (zS r2 0 7).bind fun x66 =>
 (zg x66).bind fun x67 =>
 (asInt .i64 (x67.1)).bind fun x68 =>
 (zg x67.2).bind fun x69 =>
 (asInt .u8 (x69.1)).bind fun x70 =>
 (zg x69.2).bind fun x71 =>
 (asInt .u8 (x71.1)).bind fun x72 =>
 (zg x71.2).bind fun x73 =>
 (asInt .u8 (x73.1)).bind fun x74 =>
 (zg x73.2).bind fun x75 =>
 (asInt .u8 (x75.1)).bind fun x76 =>
 (zg x75.2).bind fun x77 =>
 (asInt .u8 (x77.1)).bind fun x78 =>
 (zg x77.2).bind fun x79 =>
 (asInt .u8 (x79.1)).bind fun x80 =>
 (zh x79.2).bind fun x81 =>
 cond (x49 == 0) (
 (zS r2 0 7).bind fun x82 =>
 (zg x82).bind fun x83 =>
 (asInt .i64 (x83.1)).bind fun x84 =>
 (zg x83.2).bind fun x85 =>
 (asInt .u8 (x85.1)).bind fun x86 =>
 (zg x85.2).bind fun x87 =>
 (asInt .u8 (x87.1)).bind fun x88 =>
 (zg x87.2).bind fun x89 =>
 (asInt .u8 (x89.1)).bind fun x90 =>
 (zg x89.2).bind fun x91 =>
 (asInt .u8 (x91.1)).bind fun x92 =>
 (zg x91.2).bind fun x93 =>
 (asInt .u8 (x93.1)).bind fun x94 =>
 (zg x93.2).bind fun x95 =>
 (asInt .u8 (x95.1)).bind fun x96 =>
 (zh x95.2).bind fun x97 =>
 cond (decide (x49 ≤ 0)) (
 cond (decide (1 ≤ r1.length)) (
 cond (zaN 7 r1) (
 cond (decide (x49 ≥ 0)) (
 cond (decide (1 ≤ r2.length)) (
 cond (zaN 7 r2) (
 cond (decide (r0.length = r0.length)) (
 cond (decide (((r0.length + 1) * 16) ≤ zag)) (
 some (.normal, (zbR ((r1.take r1.length).drop 1) ((r2.take r2.length).drop 1) n3 n4 (r0.length + 1) (List.append r0 [[.int .i64 (IntKind.wrap .i64 (x68 + x84)), .int .u8 x70, .int .u8 x72, .int .u8 x74, .int .u8 x76, .int .u8 x78, .int .u8 x80]])))) (
 none)) (
 none)) (
 none)) (
 none)) (
 cond (decide (r0.length = r0.length)) (
 cond (decide (((r0.length + 1) * 16) ≤ zag)) (
 some (.normal, (zbR ((r1.take r1.length).drop 1) r2 n3 n4 (r0.length + 1) (List.append r0 [[.int .i64 (IntKind.wrap .i64 (x68 + x84)), .int .u8 x70, .int .u8 x72, .int .u8 x74, .int .u8 x76, .int .u8 x78, .int .u8 x80]])))) (
 none)) (
 none))) (
 none)) (
 none)) (
 cond (decide (x49 ≥ 0)) (
 cond (decide (1 ≤ r2.length)) (
 cond (zaN 7 r2) (
 cond (decide (r0.length = r0.length)) (
 cond (decide (((r0.length + 1) * 16) ≤ zag)) (
 some (.normal, (zbR r1 ((r2.take r2.length).drop 1) n3 n4 (r0.length + 1) (List.append r0 [[.int .i64 (IntKind.wrap .i64 (x68 + x84)), .int .u8 x70, .int .u8 x72, .int .u8 x74, .int .u8 x76, .int .u8 x78, .int .u8 x80]])))) (
 none)) (
 none)) (
 none)) (
 none)) (
 cond (decide (r0.length = r0.length)) (
 cond (decide (((r0.length + 1) * 16) ≤ zag)) (
 some (.normal, (zbR r1 r2 n3 n4 (r0.length + 1) (List.append r0 [[.int .i64 (IntKind.wrap .i64 (x68 + x84)), .int .u8 x70, .int .u8 x72, .int .u8 x74, .int .u8 x76, .int .u8 x78, .int .u8 x80]])))) (
 none)) (
 none)))) (
 cond (decide (x49 ≤ 0)) (
 cond (decide (1 ≤ r1.length)) (
 cond (zaN 7 r1) (
 cond (decide (x49 ≥ 0)) (
 cond (decide (1 ≤ r2.length)) (
 cond (zaN 7 r2) (
 cond (decide (r0.length = r0.length)) (
 cond (decide (((r0.length + 1) * 16) ≤ zag)) (
 some (.normal, (zbR ((r1.take r1.length).drop 1) ((r2.take r2.length).drop 1) n3 n4 (r0.length + 1) (List.append r0 [[.int .i64 x68, .int .u8 x70, .int .u8 x72, .int .u8 x74, .int .u8 x76, .int .u8 x78, .int .u8 x80]])))) (
 none)) (
 none)) (
 none)) (
 none)) (
 cond (decide (r0.length = r0.length)) (
 cond (decide (((r0.length + 1) * 16) ≤ zag)) (
 some (.normal, (zbR ((r1.take r1.length).drop 1) r2 n3 n4 (r0.length + 1) (List.append r0 [[.int .i64 x68, .int .u8 x70, .int .u8 x72, .int .u8 x74, .int .u8 x76, .int .u8 x78, .int .u8 x80]])))) (
 none)) (
 none))) (
 none)) (
 none)) (
 cond (decide (x49 ≥ 0)) (
 cond (decide (1 ≤ r2.length)) (
 cond (zaN 7 r2) (
 cond (decide (r0.length = r0.length)) (
 cond (decide (((r0.length + 1) * 16) ≤ zag)) (
 some (.normal, (zbR r1 ((r2.take r2.length).drop 1) n3 n4 (r0.length + 1) (List.append r0 [[.int .i64 x68, .int .u8 x70, .int .u8 x72, .int .u8 x74, .int .u8 x76, .int .u8 x78, .int .u8 x80]])))) (
 none)) (
 none)) (
 none)) (
 none)) (
 cond (decide (r0.length = r0.length)) (
 cond (decide (((r0.length + 1) * 16) ≤ zag)) (
 some (.normal, (zbR r1 r2 n3 n4 (r0.length + 1) (List.append r0 [[.int .i64 x68, .int .u8 x70, .int .u8 x72, .int .u8 x74, .int .u8 x76, .int .u8 x78, .int .u8 x80]])))) (
 none)) (
 none))))) (
 cond (x49 == 0) (
 (zS r2 0 7).bind fun x50 =>
 (zg x50).bind fun x51 =>
 (asInt .i64 (x51.1)).bind fun x52 =>
 (zg x51.2).bind fun x53 =>
 (asInt .u8 (x53.1)).bind fun x54 =>
 (zg x53.2).bind fun x55 =>
 (asInt .u8 (x55.1)).bind fun x56 =>
 (zg x55.2).bind fun x57 =>
 (asInt .u8 (x57.1)).bind fun x58 =>
 (zg x57.2).bind fun x59 =>
 (asInt .u8 (x59.1)).bind fun x60 =>
 (zg x59.2).bind fun x61 =>
 (asInt .u8 (x61.1)).bind fun x62 =>
 (zg x61.2).bind fun x63 =>
 (asInt .u8 (x63.1)).bind fun x64 =>
 (zh x63.2).bind fun x65 =>
 cond (decide (x49 ≤ 0)) (
 cond (decide (1 ≤ r1.length)) (
 cond (zaN 7 r1) (
 cond (decide (x49 ≥ 0)) (
 cond (decide (1 ≤ r2.length)) (
 cond (zaN 7 r2) (
 cond (decide (r0.length = r0.length)) (
 cond (decide (((r0.length + 1) * 16) ≤ zag)) (
 some (.normal, (zbR ((r1.take r1.length).drop 1) ((r2.take r2.length).drop 1) n3 n4 (r0.length + 1) (List.append r0 [[.int .i64 (IntKind.wrap .i64 (x2 + x52)), .int .u8 x4, .int .u8 x6, .int .u8 x8, .int .u8 x10, .int .u8 x12, .int .u8 x14]])))) (
 none)) (
 none)) (
 none)) (
 none)) (
 cond (decide (r0.length = r0.length)) (
 cond (decide (((r0.length + 1) * 16) ≤ zag)) (
 some (.normal, (zbR ((r1.take r1.length).drop 1) r2 n3 n4 (r0.length + 1) (List.append r0 [[.int .i64 (IntKind.wrap .i64 (x2 + x52)), .int .u8 x4, .int .u8 x6, .int .u8 x8, .int .u8 x10, .int .u8 x12, .int .u8 x14]])))) (
 none)) (
 none))) (
 none)) (
 none)) (
 cond (decide (x49 ≥ 0)) (
 cond (decide (1 ≤ r2.length)) (
 cond (zaN 7 r2) (
 cond (decide (r0.length = r0.length)) (
 cond (decide (((r0.length + 1) * 16) ≤ zag)) (
 some (.normal, (zbR r1 ((r2.take r2.length).drop 1) n3 n4 (r0.length + 1) (List.append r0 [[.int .i64 (IntKind.wrap .i64 (x2 + x52)), .int .u8 x4, .int .u8 x6, .int .u8 x8, .int .u8 x10, .int .u8 x12, .int .u8 x14]])))) (
 none)) (
 none)) (
 none)) (
 none)) (
 cond (decide (r0.length = r0.length)) (
 cond (decide (((r0.length + 1) * 16) ≤ zag)) (
 some (.normal, (zbR r1 r2 n3 n4 (r0.length + 1) (List.append r0 [[.int .i64 (IntKind.wrap .i64 (x2 + x52)), .int .u8 x4, .int .u8 x6, .int .u8 x8, .int .u8 x10, .int .u8 x12, .int .u8 x14]])))) (
 none)) (
 none)))) (
 cond (decide (x49 ≤ 0)) (
 cond (decide (1 ≤ r1.length)) (
 cond (zaN 7 r1) (
 cond (decide (x49 ≥ 0)) (
 cond (decide (1 ≤ r2.length)) (
 cond (zaN 7 r2) (
 cond (decide (r0.length = r0.length)) (
 cond (decide (((r0.length + 1) * 16) ≤ zag)) (
 some (.normal, (zbR ((r1.take r1.length).drop 1) ((r2.take r2.length).drop 1) n3 n4 (r0.length + 1) (List.append r0 [[.int .i64 x2, .int .u8 x4, .int .u8 x6, .int .u8 x8, .int .u8 x10, .int .u8 x12, .int .u8 x14]])))) (
 none)) (
 none)) (
 none)) (
 none)) (
 cond (decide (r0.length = r0.length)) (
 cond (decide (((r0.length + 1) * 16) ≤ zag)) (
 some (.normal, (zbR ((r1.take r1.length).drop 1) r2 n3 n4 (r0.length + 1) (List.append r0 [[.int .i64 x2, .int .u8 x4, .int .u8 x6, .int .u8 x8, .int .u8 x10, .int .u8 x12, .int .u8 x14]])))) (
 none)) (
 none))) (
 none)) (
 none)) (
 cond (decide (x49 ≥ 0)) (
 cond (decide (1 ≤ r2.length)) (
 cond (zaN 7 r2) (
 cond (decide (r0.length = r0.length)) (
 cond (decide (((r0.length + 1) * 16) ≤ zag)) (
 some (.normal, (zbR r1 ((r2.take r2.length).drop 1) n3 n4 (r0.length + 1) (List.append r0 [[.int .i64 x2, .int .u8 x4, .int .u8 x6, .int .u8 x8, .int .u8 x10, .int .u8 x12, .int .u8 x14]])))) (
 none)) (
 none)) (
 none)) (
 none)) (
 cond (decide (r0.length = r0.length)) (
 cond (decide (((r0.length + 1) * 16) ≤ zag)) (
 some (.normal, (zbR r1 r2 n3 n4 (r0.length + 1) (List.append r0 [[.int .i64 x2, .int .u8 x4, .int .u8 x6, .int .u8 x8, .int .u8 x10, .int .u8 x12, .int .u8 x14]])))) (
 none)) (
 none))))))) := by kernel_rfl
theorem e54 (C : CallT) (r0 : List (List V)) (r1 : List (List V)) : zO GZ LZ C (.func 54) [.slice .any r0, .slice .any r1] [] =
 (C.w (zp GZ LZ C 54 none 2) (zbR r0 r1 0 0 0 [])).bind fun x0 =>
 match x0.1 with
 | .normal =>
 none
 | .exit x2 =>
 cond (Nat.beq x2 0) (
 (zl ((nth x0.2.t 0))).bind fun x27 =>
 (zl ((nth x0.2.t 1))).bind fun x28 =>
 (zai ((nth x0.2.t 5))).bind fun x29 =>
 (zg x29).bind fun x30 =>
 (asInt .i64 (x30.1)).bind fun x31 =>
 (zg x30.2).bind fun x32 =>
 (asInt .i64 (x32.1)).bind fun x33 =>
 (zh x32.2).bind fun x34 =>
 (zcn 0 7 ((nth x0.2.t 6))).bind fun x35 =>
 (zJ x0.2.h).bind fun x36 =>
 (zaU true 7 x36.1).bind fun x37 =>
 (zak [.arr true 7 x37] 0 x35).bind fun x38 =>
 (C.p (.func 94) [.slice .any x38, .int .i64 6, .agg [.int .i64 0, .int .i64 0]]).bind fun x39 =>
 (zy (x39)).bind fun x40 =>
 (zg x40).bind fun x41 =>
 (zl (x41.1)).bind fun x42 =>
 (zg x41.2).bind fun x43 =>
 (zi (x43.1)).bind fun x44 =>
 (zg x44).bind fun x45 =>
 (asInt .i64 (x45.1)).bind fun x46 =>
 (zg x45.2).bind fun x47 =>
 (asInt .i64 (x47.1)).bind fun x48 =>
 (zh x47.2).bind fun x49 =>
 (zh x43.2).bind fun x50 =>
 some (.tuple [.slice .any x42, .agg [.int .i64 x46, .int .i64 x48]], [.arr false 7 x37])) (
 cond (Nat.beq x2 0) (
 (zl ((nth x0.2.t 0))).bind fun x3 =>
 (zl ((nth x0.2.t 1))).bind fun x4 =>
 (zai ((nth x0.2.t 5))).bind fun x5 =>
 (zg x5).bind fun x6 =>
 (asInt .i64 (x6.1)).bind fun x7 =>
 (zg x6.2).bind fun x8 =>
 (asInt .i64 (x8.1)).bind fun x9 =>
 (zh x8.2).bind fun x10 =>
 (zcn 0 7 ((nth x0.2.t 6))).bind fun x11 =>
 (zJ x0.2.h).bind fun x12 =>
 (zaU true 7 x12.1).bind fun x13 =>
 (zak [.arr true 7 x13] 0 x11).bind fun x14 =>
 (C.p (.func 94) [.slice .any x14, .int .i64 6, .agg [.int .i64 0, .int .i64 0]]).bind fun x15 =>
 (zy (x15)).bind fun x16 =>
 (zg x16).bind fun x17 =>
 (zl (x17.1)).bind fun x18 =>
 (zg x17.2).bind fun x19 =>
 (zi (x19.1)).bind fun x20 =>
 (zg x20).bind fun x21 =>
 (asInt .i64 (x21.1)).bind fun x22 =>
 (zg x21.2).bind fun x23 =>
 (asInt .i64 (x23.1)).bind fun x24 =>
 (zh x23.2).bind fun x25 =>
 (zh x19.2).bind fun x26 =>
 some (.tuple [.slice .any x18, .agg [.int .i64 x22, .int .i64 x24]], [.arr false 7 x13])) (
 none))
 | .ret =>
 none := by kernel_rfl
def zjs (p0 : List (List V)) (p1 : Int) (p2 : Int) (p3 : Int) (p4 : List (List V)) (p5 : Int) (p6 : Int) (p7 : List (List V × List V)) (p8 : Int) (p9 : Int) : St := ⟨(sp 0 95 [(1, .slice .any p0), (2, .int .i64 p1), (7, .box [.int .i64 p2, .int .i64 p3]), (8, .map 0), (9, .ptr 1 0), (23, .slice .any p4), (24, .int .i64 p5), (25, .int .i64 p6)]), [.map true false 6 p7, .cells [.int .i64 p8, .int .i64 p9]]⟩
def zen (p0 : List (List V)) (p1 : Int) (p2 : Int) (p3 : Int) (p4 : Int) (p5 : Int) (p6 : Int) (p7 : Int) (p8 : Int) (p9 : Int) (p10 : Int) (p11 : List (List V)) (p12 : Int) (p13 : Int) (p14 : List (List V)) (p15 : Int) (p16 : Int) (p17 : List (List V × List V)) (p18 : Int) (p19 : Int) : St := ⟨(sp 0 95 [(1, .slice .any p0), (2, .int .i64 p1), (7, .box [.int .i64 p2, .int .i64 p3]), (8, .map 0), (9, .ptr 1 0), (11, .box [.int .i64 p4, .int .u8 p5, .int .u8 p6, .int .u8 p7, .int .u8 p8, .int .u8 p9, .int .u8 p10]), (23, .slice .any p11), (24, .int .i64 p12), (25, .int .i64 p13), (29, .slice .any p14), (30, .int .i64 p15), (31, .int .i64 p16)]), [.map true false 6 p17, .cells [.int .i64 p18, .int .i64 p19]]⟩
def zho (p0 : List (List V)) (p1 : Int) (p2 : Int) (p3 : Int) (p4 : Int) (p5 : Int) (p6 : Int) (p7 : Int) (p8 : Int) (p9 : Int) (p10 : Int) (p11 : Int) (p12 : Int) (p13 : Int) (p14 : Int) (p15 : Int) (p16 : Int) (p17 : Int) (p18 : Int) (p19 : Int) (p20 : Int) (p21 : Int) (p22 : Int) (p23 : Int) (p24 : List (List V)) (p25 : Int) (p26 : Int) (p27 : List (List V)) (p28 : Int) (p29 : Int) (p30 : Int) (p31 : Int) (p32 : Int) (p33 : Int) (p34 : Int) (p35 : Int) (p36 : Int) (p37 : List (List V × List V)) (p38 : Int) (p39 : Int) : St := ⟨(sp 0 95 [(1, .slice .any p0), (2, .int .i64 p1), (7, .box [.int .i64 p2, .int .i64 p3]), (8, .map 0), (9, .ptr 1 0), (11, .box [.int .i64 p4, .int .u8 p5, .int .u8 p6, .int .u8 p7, .int .u8 p8, .int .u8 p9, .int .u8 p10]), (13, .box [.int .i64 p11, .int .u8 p12, .int .u8 p13, .int .u8 p14, .int .u8 p15, .int .u8 p16, .int .u8 p17]), (14, .box [.int .u8 p18, .int .u8 p19, .int .u8 p20, .int .u8 p21, .int .u8 p22, .int .u8 p23]), (23, .slice .any p24), (24, .int .i64 p25), (25, .int .i64 p26), (29, .slice .any p27), (30, .int .i64 p28), (31, .int .i64 p29), (38, .agg [.int .u8 p30, .int .u8 p31, .int .u8 p32, .int .u8 p33, .int .u8 p34, .int .u8 p35]), (39, .int .i64 p36)]), [.map true false 6 p37, .cells [.int .i64 p38, .int .i64 p39]]⟩
def zgC (p0 : Int) (p1 : Int) (p2 : Int) (p3 : Nat) (p4 : List (List V)) (p5 : Int) (p6 : Int) (p7 : List (List V × List V)) (p8 : Int) (p9 : Int) (p10 : List (List V)) : St := ⟨(sp 0 95 [(2, .int .i64 p0), (7, .box [.int .i64 p1, .int .i64 p2]), (8, .map 0), (9, .ptr 1 0), (19, .arr 2 p3 7), (74, .slice .any p4), (75, .int .i64 p5), (76, .int .i64 p6)]), [.map true false 6 p7, .cells [.int .i64 p8, .int .i64 p9], .arr true 7 p10, .cells [.map 0]]⟩
theorem zrK (C : CallT) (r0 : List (List V)) (m1 : List (List V × List V)) (n2 : Int) (n3 : Int) (n4 : Int) (n5 : Int) (n6 : Int) (r7 : List (List V)) (n8 : Int) (n9 : Int) : zp GZ LZ C 63 none 23 (zgC n4 n5 n6 r0.length r7 n8 n9 m1 n2 n3 r0) =
 cond (decide (n9 < n8)) (
 (zS r7 n9 6).bind fun x0 =>
 (zg x0).bind fun x1 =>
 (asInt .u8 (x1.1)).bind fun x2 =>
 (zg x1.2).bind fun x3 =>
 (asInt .u8 (x3.1)).bind fun x4 =>
 (zg x3.2).bind fun x5 =>
 (asInt .u8 (x5.1)).bind fun x6 =>
 (zg x5.2).bind fun x7 =>
 (asInt .u8 (x7.1)).bind fun x8 =>
 (zg x7.2).bind fun x9 =>
 (asInt .u8 (x9.1)).bind fun x10 =>
 (zg x9.2).bind fun x11 =>
 (asInt .u8 (x11.1)).bind fun x12 =>
 (zh x11.2).bind fun x13 =>
 (zaw (eqT GP 8 60) [.int .u8 x2, .int .u8 x4, .int .u8 x6, .int .u8 x8, .int .u8 x10, .int .u8 x12] m1).bind fun x14 =>
 match x14 with
 | none =>
 cond (decide (r0.length = r0.length)) (
 cond (decide (((r0.length + 1) * 16) ≤ zag)) (
 some (.normal, (zgC n4 n5 n6 (r0.length + 1) r7 n8 (IntKind.wrap .i64 (n9 + 1)) m1 n2 n3 (List.append r0 [[.int .i64 0, .int .u8 x2, .int .u8 x4, .int .u8 x6, .int .u8 x8, .int .u8 x10, .int .u8 x12]])))) (
 none)) (
 none)
 | some x15 =>
 (zeG m1 x15).bind fun x16 =>
 (zg x16).bind fun x17 =>
 (asInt .i64 (x17.1)).bind fun x18 =>
 (zh x17.2).bind fun x19 =>
 cond (decide (r0.length = r0.length)) (
 cond (decide (((r0.length + 1) * 16) ≤ zag)) (
 some (.normal, (zgC n4 n5 n6 (r0.length + 1) r7 n8 (IntKind.wrap .i64 (n9 + 1)) m1 n2 n3 (List.append r0 [[.int .i64 x18, .int .u8 x2, .int .u8 x4, .int .u8 x6, .int .u8 x8, .int .u8 x10, .int .u8 x12]])))) (
 none)) (
 none)) (
 some ((.exit 6), (zgC n4 n5 n6 r0.length r7 n8 n9 m1 n2 n3 r0))) := by kernel_rfl
theorem zrL (C : CallT) (r0 : List (List V)) (m1 : List (List V × List V)) (n2 : Int) (n3 : Int) : zO GZ LZ C (.func 100) [.map 0] [.map true false 6 m1, .cells [.int .i64 n2, .int .i64 n3], .arr true 7 r0] =
 some (.fn (.func 114) [] [.ptr 3 0], [.map true false 6 m1, .cells [.int .i64 n2, .int .i64 n3], .arr true 7 r0, .cells [.map 0]]) := by kernel_rfl
theorem ztj (C : CallT) (m0 : List (List V × List V)) (n1 : Int) (n2 : Int) (n3 : Int) (n4 : Int) (n5 : Int) (n6 : Int) (n7 : Int) (n8 : Int) : zO GZ LZ C (.func 98) [.ptr 1 0, .agg [.int .u8 n3, .int .u8 n4, .int .u8 n5, .int .u8 n6, .int .u8 n7, .int .u8 n8]] [.map true false 6 m0, .cells [.int .i64 n1, .int .i64 n2]] =
 (C.p (.func 111) [.agg [.int .u8 n3, .int .u8 n4, .int .u8 n5, .int .u8 n6, .int .u8 n7, .int .u8 n8]]).bind fun x0 =>
 (asBool (x0)).bind fun x1 =>
 cond x1 (
 some (.tuple [], [.map true false 6 m0, .cells [.int .i64 (IntKind.wrap .i64 (n1 - 1)), .int .i64 (IntKind.wrap .i64 (n2 + 1))]])) (
 some (.tuple [], [.map true false 6 m0, .cells [.int .i64 n1, .int .i64 (IntKind.wrap .i64 (n2 + 1))]])) := by kernel_rfl
theorem zgD (C : CallT) (m0 : List (List V × List V)) (n1 : Int) (n2 : Int) (r3 : List (List V)) (n4 : Int) (n5 : Int) (n6 : Int) (n7 : Int) (n8 : Int) (n9 : Int) (n10 : Int) (n11 : Int) (n12 : Int) (n13 : Int) (n14 : Int) (n15 : Int) (n16 : Int) (n17 : Int) (n18 : Int) (n19 : Int) (n20 : Int) (n21 : Int) (n22 : Int) (n23 : Int) (n24 : Int) (n25 : Int) (n26 : Int) (r27 : List (List V)) (n28 : Int) (n29 : Int) (r30 : List (List V)) (n31 : Int) (n32 : Int) (n33 : Int) (n34 : Int) (n35 : Int) (n36 : Int) (n37 : Int) (n38 : Int) (n39 : Int) : zp GZ LZ C 63 none 11 (zho r3 n4 n5 n6 n7 n8 n9 n10 n11 n12 n13 n14 n15 n16 n17 n18 n19 n20 n21 n22 n23 n24 n25 n26 r27 n28 n29 r30 n31 n32 n33 n34 n35 n36 n37 n38 n39 m0 n1 n2) =
 cond (decide (n39 < 6)) (
 cond (decide (0 ≤ n39)) (
 cond (decide (n39.toNat < 6)) (
 (za5 [n33, n34, n35, n36, n37, n38] (n39.toNat * 1)).bind fun x0 =>
 cond (decide (0 ≤ n39)) (
 cond (decide (n39.toNat < 6)) (
 (za5 [n21, n22, n23, n24, n25, n26] (n39.toNat * 1)).bind fun x1 =>
 cond (decide (0 ≤ n39)) (
 cond (decide (n39.toNat < 6)) (
 cond (Nat.blt (n39.toNat * 1) 6) (
 some (.normal, (zho r3 n4 n5 n6 n7 n8 n9 n10 n11 n12 n13 n14 n15 n16 n17 n18 n19 n20 (cond (Nat.beq (n39.toNat * 1) 0) (IntKind.wrap .u8 (x1 + x0)) n21) (cond (Nat.beq (n39.toNat * 1) 1) (IntKind.wrap .u8 (x1 + x0)) n22) (cond (Nat.beq (n39.toNat * 1) 2) (IntKind.wrap .u8 (x1 + x0)) n23) (cond (Nat.beq (n39.toNat * 1) 3) (IntKind.wrap .u8 (x1 + x0)) n24) (cond (Nat.beq (n39.toNat * 1) 4) (IntKind.wrap .u8 (x1 + x0)) n25) (cond (Nat.beq (n39.toNat * 1) 5) (IntKind.wrap .u8 (x1 + x0)) n26) r27 n28 n29 r30 n31 n32 n33 n34 n35 n36 n37 n38 (IntKind.wrap .i64 (n39 + 1)) m0 n1 n2))) (
 none)) (
 none)) (
 none)) (
 none)) (
 none)) (
 none)) (
 none)) (
 some ((.exit 4), (zho r3 n4 n5 n6 n7 n8 n9 n10 n11 n12 n13 n14 n15 n16 n17 n18 n19 n20 n21 n22 n23 n24 n25 n26 r27 n28 n29 r30 n31 n32 n33 n34 n35 n36 n37 n38 n39 m0 n1 n2))) := by kernel_rfl
theorem e63_7 (C : CallT) (m0 : List (List V × List V)) (n1 : Int) (n2 : Int) (r3 : List (List V)) (n4 : Int) (n5 : Int) (n6 : Int) (n7 : Int) (n8 : Int) (n9 : Int) (n10 : Int) (n11 : Int) (n12 : Int) (n13 : Int) (r14 : List (List V)) (n15 : Int) (n16 : Int) (r17 : List (List V)) (n18 : Int) (n19 : Int) : zp GZ LZ C 63 none 7 (zen r3 n4 n5 n6 n7 n8 n9 n10 n11 n12 n13 r14 n15 n16 r17 n18 n19 m0 n1 n2) =
 cond (decide (n19 < n18)) (
 (zS r17 n19 7).bind fun x0 =>
 (zg x0).bind fun x1 =>
 (asInt .i64 (x1.1)).bind fun x2 =>
 (zg x1.2).bind fun x3 =>
 (asInt .u8 (x3.1)).bind fun x4 =>
 (zg x3.2).bind fun x5 =>
 (asInt .u8 (x5.1)).bind fun x6 =>
 (zg x5.2).bind fun x7 =>
 (asInt .u8 (x7.1)).bind fun x8 =>
 (zg x7.2).bind fun x9 =>
 (asInt .u8 (x9.1)).bind fun x10 =>
 (zg x9.2).bind fun x11 =>
 (asInt .u8 (x11.1)).bind fun x12 =>
 (zg x11.2).bind fun x13 =>
 (asInt .u8 (x13.1)).bind fun x14 =>
 (zh x13.2).bind fun x15 =>
 (C.w (zp GZ LZ C 63 none 11) (zho r3 n4 n5 n6 n7 n8 n9 n10 n11 n12 n13 x2 x4 x6 x8 x10 x12 x14 n8 n9 n10 n11 n12 n13 r14 n15 n16 r17 n18 n19 x4 x6 x8 x10 x12 x14 0 m0 n1 n2)).bind fun x16 =>
 match x16.1 with
 | .normal =>
 none
 | .exit x18 =>
 cond (Nat.beq x18 4) (
 (zl ((nth x16.2.t 1))).bind fun x19 =>
 (asInt .i64 ((nth x16.2.t 2))).bind fun x20 =>
 (zai ((nth x16.2.t 7))).bind fun x21 =>
 (zg x21).bind fun x22 =>
 (asInt .i64 (x22.1)).bind fun x23 =>
 (zg x22.2).bind fun x24 =>
 (asInt .i64 (x24.1)).bind fun x25 =>
 (zh x24.2).bind fun x26 =>
 (zbm 0 ((nth x16.2.t 8))).bind fun x27 =>
 (zaj 1 0 ((nth x16.2.t 9))).bind fun x28 =>
 (zai ((nth x16.2.t 11))).bind fun x29 =>
 (zg x29).bind fun x30 =>
 (asInt .i64 (x30.1)).bind fun x31 =>
 (zg x30.2).bind fun x32 =>
 (asInt .u8 (x32.1)).bind fun x33 =>
 (zg x32.2).bind fun x34 =>
 (asInt .u8 (x34.1)).bind fun x35 =>
 (zg x34.2).bind fun x36 =>
 (asInt .u8 (x36.1)).bind fun x37 =>
 (zg x36.2).bind fun x38 =>
 (asInt .u8 (x38.1)).bind fun x39 =>
 (zg x38.2).bind fun x40 =>
 (asInt .u8 (x40.1)).bind fun x41 =>
 (zg x40.2).bind fun x42 =>
 (asInt .u8 (x42.1)).bind fun x43 =>
 (zh x42.2).bind fun x44 =>
 (zai ((nth x16.2.t 13))).bind fun x45 =>
 (zg x45).bind fun x46 =>
 (asInt .i64 (x46.1)).bind fun x47 =>
 (zg x46.2).bind fun x48 =>
 (asInt .u8 (x48.1)).bind fun x49 =>
 (zg x48.2).bind fun x50 =>
 (asInt .u8 (x50.1)).bind fun x51 =>
 (zg x50.2).bind fun x52 =>
 (asInt .u8 (x52.1)).bind fun x53 =>
 (zg x52.2).bind fun x54 =>
 (asInt .u8 (x54.1)).bind fun x55 =>
 (zg x54.2).bind fun x56 =>
 (asInt .u8 (x56.1)).bind fun x57 =>
 (zg x56.2).bind fun x58 =>
 (asInt .u8 (x58.1)).bind fun x59 =>
 (zh x58.2).bind fun x60 =>
 (zai ((nth x16.2.t 14))).bind fun x61 =>
 (zg x61).bind fun x62 =>
 (asInt .u8 (x62.1)).bind fun x63 =>
 (zg x62.2).bind fun x64 =>
 (asInt .u8 (x64.1)).bind fun x65 =>
 (zg x64.2).bind fun x66 =>
 (asInt .u8 (x66.1)).bind fun x67 =>
 (zg x66.2).bind fun x68 =>
 (asInt .u8 (x68.1)).bind fun x69 =>
 (zg x68.2).bind fun x70 =>
 (asInt .u8 (x70.1)).bind fun x71 =>
 (zg x70.2).bind fun x72 =>
 (asInt .u8 (x72.1)).bind fun x73 =>
 (zh x72.2).bind fun x74 =>
 (zl ((nth x16.2.t 23))).bind fun x75 =>
 (asInt .i64 ((nth x16.2.t 24))).bind fun x76 =>
 (asInt .i64 ((nth x16.2.t 25))).bind fun x77 =>
 (zl ((nth x16.2.t 29))).bind fun x78 =>
 (asInt .i64 ((nth x16.2.t 30))).bind fun x79 =>
 (asInt .i64 ((nth x16.2.t 31))).bind fun x80 =>
 (zi ((nth x16.2.t 38))).bind fun x81 =>
 (zg x81).bind fun x82 =>
 (asInt .u8 (x82.1)).bind fun x83 =>
 (zg x82.2).bind fun x84 =>
 (asInt .u8 (x84.1)).bind fun x85 =>
 (zg x84.2).bind fun x86 =>
 (asInt .u8 (x86.1)).bind fun x87 =>
 (zg x86.2).bind fun x88 =>
 (asInt .u8 (x88.1)).bind fun x89 =>
 (zg x88.2).bind fun x90 =>
 (asInt .u8 (x90.1)).bind fun x91 =>
 (zg x90.2).bind fun x92 =>
 (asInt .u8 (x92.1)).bind fun x93 =>
 (zh x92.2).bind fun x94 =>
 (asInt .i64 ((nth x16.2.t 39))).bind fun x95 =>
 (zJ x16.2.h).bind fun x96 =>
 (zbU true false 6 x96.1).bind fun x97 =>
 (zJ x96.2).bind fun x98 =>
 (zX x98.1).bind fun x99 =>
 (zg x99).bind fun x100 =>
 (asInt .i64 (x100.1)).bind fun x101 =>
 (zg x100.2).bind fun x102 =>
 (asInt .i64 (x102.1)).bind fun x103 =>
 (zh x102.2).bind fun x104 =>
 (C.p (.func 97) [.int .i64 x31, .int .i64 x47]).bind fun x105 =>
 (zy (x105)).bind fun x106 =>
 (zg x106).bind fun x107 =>
 (asInt .i64 (x107.1)).bind fun x108 =>
 (zg x107.2).bind fun x109 =>
 (asInt .i64 (x109.1)).bind fun x110 =>
 (zh x109.2).bind fun x111 =>
 (zaw (eqT GP 8 60) [.int .u8 x63, .int .u8 x65, .int .u8 x67, .int .u8 x69, .int .u8 x71, .int .u8 x73] x97).bind fun x112 =>
 match x112 with
 | none =>
 (zaw (eqT GP 8 60) [.int .u8 x63, .int .u8 x65, .int .u8 x67, .int .u8 x69, .int .u8 x71, .int .u8 x73] x97).bind fun x114 =>
 cond (decide ((((zbW x97 x114) : Nat) : Int).toNat < (zcV x97 x114 [.int .u8 x63, .int .u8 x65, .int .u8 x67, .int .u8 x69, .int .u8 x71, .int .u8 x73] [.int .i64 0]).length)) (
 cond (x108 != x110) (
 (C.s (.func 98) [.ptr 1 0, .agg [.int .u8 x63, .int .u8 x65, .int .u8 x67, .int .u8 x69, .int .u8 x71, .int .u8 x73]] [.map true false 6 (zfS (zcV x97 x114 [.int .u8 x63, .int .u8 x65, .int .u8 x67, .int .u8 x69, .int .u8 x71, .int .u8 x73] [.int .i64 0]) (((zbW x97 x114) : Nat) : Int).toNat [.int .i64 (IntKind.wrap .i64 (0 + x108))]), .cells [.int .i64 x101, .int .i64 x103]]).bind fun x115 =>
 (zy (x115.1)).bind fun x116 =>
 (zh x116).bind fun x117 =>
 (zJ x115.2).bind fun x118 =>
 (zbU true false 6 x118.1).bind fun x119 =>
 (zJ x118.2).bind fun x120 =>
 (zX x120.1).bind fun x121 =>
 (zg x121).bind fun x122 =>
 (asInt .i64 (x122.1)).bind fun x123 =>
 (zg x122.2).bind fun x124 =>
 (asInt .i64 (x124.1)).bind fun x125 =>
 (zh x124.2).bind fun x126 =>
 some (.normal, (zen x19 x20 x23 x25 x31 x33 x35 x37 x39 x41 x43 x75 x76 x77 x78 x79 (IntKind.wrap .i64 (x80 + 1)) x119 x123 x125))) (
 some (.normal, (zen x19 x20 x23 x25 x31 x33 x35 x37 x39 x41 x43 x75 x76 x77 x78 x79 (IntKind.wrap .i64 (x80 + 1)) (zfS (zcV x97 x114 [.int .u8 x63, .int .u8 x65, .int .u8 x67, .int .u8 x69, .int .u8 x71, .int .u8 x73] [.int .i64 0]) (((zbW x97 x114) : Nat) : Int).toNat [.int .i64 (IntKind.wrap .i64 (0 + x108))]) x101 x103)))) (
 none)
 | some x113 =>
 (zeG x97 x113).bind fun x127 =>
 (zg x127).bind fun x128 =>
 (asInt .i64 (x128.1)).bind fun x129 =>
 (zh x128.2).bind fun x130 =>
 (zaw (eqT GP 8 60) [.int .u8 x63, .int .u8 x65, .int .u8 x67, .int .u8 x69, .int .u8 x71, .int .u8 x73] x97).bind fun x131 =>
 cond (decide ((((zbW x97 x131) : Nat) : Int).toNat < (zcV x97 x131 [.int .u8 x63, .int .u8 x65, .int .u8 x67, .int .u8 x69, .int .u8 x71, .int .u8 x73] [.int .i64 0]).length)) (
 cond (x108 != x110) (
 (C.s (.func 98) [.ptr 1 0, .agg [.int .u8 x63, .int .u8 x65, .int .u8 x67, .int .u8 x69, .int .u8 x71, .int .u8 x73]] [.map true false 6 (zfS (zcV x97 x131 [.int .u8 x63, .int .u8 x65, .int .u8 x67, .int .u8 x69, .int .u8 x71, .int .u8 x73] [.int .i64 0]) (((zbW x97 x131) : Nat) : Int).toNat [.int .i64 (IntKind.wrap .i64 (x129 + x108))]), .cells [.int .i64 x101, .int .i64 x103]]).bind fun x132 =>
 (zy (x132.1)).bind fun x133 =>
 (zh x133).bind fun x134 =>
 (zJ x132.2).bind fun x135 =>
 (zbU true false 6 x135.1).bind fun x136 =>
 (zJ x135.2).bind fun x137 =>
 (zX x137.1).bind fun x138 =>
 (zg x138).bind fun x139 =>
 (asInt .i64 (x139.1)).bind fun x140 =>
 (zg x139.2).bind fun x141 =>
 (asInt .i64 (x141.1)).bind fun x142 =>
 (zh x141.2).bind fun x143 =>
 some (.normal, (zen x19 x20 x23 x25 x31 x33 x35 x37 x39 x41 x43 x75 x76 x77 x78 x79 (IntKind.wrap .i64 (x80 + 1)) x136 x140 x142))) (
 some (.normal, (zen x19 x20 x23 x25 x31 x33 x35 x37 x39 x41 x43 x75 x76 x77 x78 x79 (IntKind.wrap .i64 (x80 + 1)) (zfS (zcV x97 x131 [.int .u8 x63, .int .u8 x65, .int .u8 x67, .int .u8 x69, .int .u8 x71, .int .u8 x73] [.int .i64 0]) (((zbW x97 x131) : Nat) : Int).toNat [.int .i64 (IntKind.wrap .i64 (x129 + x108))]) x101 x103)))) (
 none)) (
 none)
 | .ret =>
 none) (
 some ((.exit 2), (zen r3 n4 n5 n6 n7 n8 n9 n10 n11 n12 n13 r14 n15 n16 r17 n18 n19 m0 n1 n2))) := by kernel_rfl
theorem e63_4 (C : CallT) (m0 : List (List V × List V)) (n1 : Int) (n2 : Int) (r3 : List (List V)) (n4 : Int) (n5 : Int) (n6 : Int) (r7 : List (List V)) (n8 : Int) (n9 : Int) : zp GZ LZ C 63 none 4 (zjs r3 n4 n5 n6 r7 n8 n9 m0 n1 n2) =
 cond (decide (n9 < n8)) (
 (zS r7 n9 7).bind fun x0 =>
 (zg x0).bind fun x1 =>
 (asInt .i64 (x1.1)).bind fun x2 =>
 (zg x1.2).bind fun x3 =>
 (asInt .u8 (x3.1)).bind fun x4 =>
 (zg x3.2).bind fun x5 =>
 (asInt .u8 (x5.1)).bind fun x6 =>
 (zg x5.2).bind fun x7 =>
 (asInt .u8 (x7.1)).bind fun x8 =>
 (zg x7.2).bind fun x9 =>
 (asInt .u8 (x9.1)).bind fun x10 =>
 (zg x9.2).bind fun x11 =>
 (asInt .u8 (x11.1)).bind fun x12 =>
 (zg x11.2).bind fun x13 =>
 (asInt .u8 (x13.1)).bind fun x14 =>
 (zh x13.2).bind fun x15 =>
 (C.w (zp GZ LZ C 63 none 7) (zen r3 n4 n5 n6 x2 x4 x6 x8 x10 x12 x14 r7 n8 n9 r3 ((r3.length : Nat) : Int) 0 m0 n1 n2)).bind fun x16 =>
 match x16.1 with
 | .normal =>
 none
 | .exit x18 =>
 cond (Nat.beq x18 2) (
 (zl ((nth x16.2.t 1))).bind fun x19 =>
 (asInt .i64 ((nth x16.2.t 2))).bind fun x20 =>
 (zai ((nth x16.2.t 7))).bind fun x21 =>
 (zg x21).bind fun x22 =>
 (asInt .i64 (x22.1)).bind fun x23 =>
 (zg x22.2).bind fun x24 =>
 (asInt .i64 (x24.1)).bind fun x25 =>
 (zh x24.2).bind fun x26 =>
 (zbm 0 ((nth x16.2.t 8))).bind fun x27 =>
 (zaj 1 0 ((nth x16.2.t 9))).bind fun x28 =>
 (zai ((nth x16.2.t 11))).bind fun x29 =>
 (zg x29).bind fun x30 =>
 (asInt .i64 (x30.1)).bind fun x31 =>
 (zg x30.2).bind fun x32 =>
 (asInt .u8 (x32.1)).bind fun x33 =>
 (zg x32.2).bind fun x34 =>
 (asInt .u8 (x34.1)).bind fun x35 =>
 (zg x34.2).bind fun x36 =>
 (asInt .u8 (x36.1)).bind fun x37 =>
 (zg x36.2).bind fun x38 =>
 (asInt .u8 (x38.1)).bind fun x39 =>
 (zg x38.2).bind fun x40 =>
 (asInt .u8 (x40.1)).bind fun x41 =>
 (zg x40.2).bind fun x42 =>
 (asInt .u8 (x42.1)).bind fun x43 =>
 (zh x42.2).bind fun x44 =>
 (zl ((nth x16.2.t 23))).bind fun x45 =>
 (asInt .i64 ((nth x16.2.t 24))).bind fun x46 =>
 (asInt .i64 ((nth x16.2.t 25))).bind fun x47 =>
 (zl ((nth x16.2.t 29))).bind fun x48 =>
 (asInt .i64 ((nth x16.2.t 30))).bind fun x49 =>
 (asInt .i64 ((nth x16.2.t 31))).bind fun x50 =>
 (zJ x16.2.h).bind fun x51 =>
 (zbU true false 6 x51.1).bind fun x52 =>
 (zJ x51.2).bind fun x53 =>
 (zX x53.1).bind fun x54 =>
 (zg x54).bind fun x55 =>
 (asInt .i64 (x55.1)).bind fun x56 =>
 (zg x55.2).bind fun x57 =>
 (asInt .i64 (x57.1)).bind fun x58 =>
 (zh x57.2).bind fun x59 =>
 some (.normal, (zjs x19 x20 x23 x25 x45 x46 (IntKind.wrap .i64 (x47 + 1)) x52 x56 x58))) (
 none)
 | .ret =>
 none) (
 some ((.exit 0), (zjs r3 n4 n5 n6 r7 n8 n9 m0 n1 n2))) := by kernel_rfl
theorem e63 (C : CallT) (r0 : List (List V)) (r1 : List (List V)) (n2 : Int) : zO GZ LZ C (.func 63) [.slice .any r0, .slice .any r1, .int .i64 n2] [] =
 (C.w (zp GZ LZ C 63 none 4) (zjs r1 n2 0 0 r0 ((r0.length : Nat) : Int) 0 [] 0 0)).bind fun x0 =>
 match x0.1 with
 | .normal =>
 none
 | .exit x2 =>
 cond (Nat.beq x2 0) (
 (zl ((nth x0.2.t 1))).bind fun x3 =>
 (asInt .i64 ((nth x0.2.t 2))).bind fun x4 =>
 (zai ((nth x0.2.t 7))).bind fun x5 =>
 (zg x5).bind fun x6 =>
 (asInt .i64 (x6.1)).bind fun x7 =>
 (zg x6.2).bind fun x8 =>
 (asInt .i64 (x8.1)).bind fun x9 =>
 (zh x8.2).bind fun x10 =>
 (zbm 0 ((nth x0.2.t 8))).bind fun x11 =>
 (zaj 1 0 ((nth x0.2.t 9))).bind fun x12 =>
 (zl ((nth x0.2.t 23))).bind fun x13 =>
 (asInt .i64 ((nth x0.2.t 24))).bind fun x14 =>
 (asInt .i64 ((nth x0.2.t 25))).bind fun x15 =>
 (zJ x0.2.h).bind fun x16 =>
 (zbU true false 6 x16.1).bind fun x17 =>
 (zJ x16.2).bind fun x18 =>
 (zX x18.1).bind fun x19 =>
 (zg x19).bind fun x20 =>
 (asInt .i64 (x20.1)).bind fun x21 =>
 (zg x20.2).bind fun x22 =>
 (asInt .i64 (x22.1)).bind fun x23 =>
 (zh x22.2).bind fun x24 =>
 (C.s (.func 100) [.map 0] [.map true false 6 x17, .cells [.int .i64 x21, .int .i64 x23], .arr true 7 []]).bind fun x25 =>
 (zcm (.func 114) (x25.1)).bind fun x26 =>
 (zh x26.1).bind fun x27 =>
 (zg x26.2).bind fun x28 =>
 (zaj 3 0 (x28.1)).bind fun x29 =>
 (zh x28.2).bind fun x30 =>
 (zJ x25.2).bind fun x31 =>
 (zbU true false 6 x31.1).bind fun x32 =>
 (zJ x31.2).bind fun x33 =>
 (zX x33.1).bind fun x34 =>
 (zg x34).bind fun x35 =>
 (asInt .i64 (x35.1)).bind fun x36 =>
 (zg x35.2).bind fun x37 =>
 (asInt .i64 (x37.1)).bind fun x38 =>
 (zh x37.2).bind fun x39 =>
 (zJ x33.2).bind fun x40 =>
 (zaU true 7 x40.1).bind fun x41 =>
 (zJ x40.2).bind fun x42 =>
 (zX x42.1).bind fun x43 =>
 (zg x43).bind fun x44 =>
 (zbm 0 (x44.1)).bind fun x45 =>
 (zh x44.2).bind fun x46 =>
 (C.s (.func 99) [.fn (.func 114) [] [.ptr 3 0], .fn (.func 92) [] []] [.map true false 6 x32, .cells [.int .i64 x36, .int .i64 x38], .arr true 7 x41, .cells [.map 0]]).bind fun x47 =>
 (zl (x47.1)).bind fun x48 =>
 (zJ x47.2).bind fun x49 =>
 (zbU true false 6 x49.1).bind fun x50 =>
 (zJ x49.2).bind fun x51 =>
 (zX x51.1).bind fun x52 =>
 (zg x52).bind fun x53 =>
 (asInt .i64 (x53.1)).bind fun x54 =>
 (zg x53.2).bind fun x55 =>
 (asInt .i64 (x55.1)).bind fun x56 =>
 (zh x55.2).bind fun x57 =>
 (zJ x51.2).bind fun x58 =>
 (zaU true 7 x58.1).bind fun x59 =>
 (zJ x58.2).bind fun x60 =>
 (zX x60.1).bind fun x61 =>
 (zg x61).bind fun x62 =>
 (zbm 0 (x62.1)).bind fun x63 =>
 (zh x62.2).bind fun x64 =>
 (C.w (zp GZ LZ C 63 none 23) (zgC x4 x7 x9 0 x48 ((x48.length : Nat) : Int) 0 x50 x54 x56 x59)).bind fun x65 =>
 match x65.1 with
 | .normal =>
 none
 | .exit x67 =>
 cond (Nat.beq x67 6) (
 (asInt .i64 ((nth x65.2.t 2))).bind fun x68 =>
 (zai ((nth x65.2.t 7))).bind fun x69 =>
 (zg x69).bind fun x70 =>
 (asInt .i64 (x70.1)).bind fun x71 =>
 (zg x70.2).bind fun x72 =>
 (asInt .i64 (x72.1)).bind fun x73 =>
 (zh x72.2).bind fun x74 =>
 (zbm 0 ((nth x65.2.t 8))).bind fun x75 =>
 (zaj 1 0 ((nth x65.2.t 9))).bind fun x76 =>
 (zcn 2 7 ((nth x65.2.t 19))).bind fun x77 =>
 (zl ((nth x65.2.t 74))).bind fun x78 =>
 (asInt .i64 ((nth x65.2.t 75))).bind fun x79 =>
 (asInt .i64 ((nth x65.2.t 76))).bind fun x80 =>
 (zJ x65.2.h).bind fun x81 =>
 (zbU true false 6 x81.1).bind fun x82 =>
 (zJ x81.2).bind fun x83 =>
 (zX x83.1).bind fun x84 =>
 (zg x84).bind fun x85 =>
 (asInt .i64 (x85.1)).bind fun x86 =>
 (zg x85.2).bind fun x87 =>
 (asInt .i64 (x87.1)).bind fun x88 =>
 (zh x87.2).bind fun x89 =>
 (zJ x83.2).bind fun x90 =>
 (zaU true 7 x90.1).bind fun x91 =>
 (zJ x90.2).bind fun x92 =>
 (zX x92.1).bind fun x93 =>
 (zg x93).bind fun x94 =>
 (zbm 0 (x94.1)).bind fun x95 =>
 (zh x94.2).bind fun x96 =>
 (zak [.map true false 6 x82, .cells [.int .i64 x86, .int .i64 x88], .arr true 7 x91, .cells [.map 0]] 2 x77).bind fun x97 =>
 (C.p (.func 94) [.slice .any x97, .int .i64 x68, .agg [.int .i64 x86, .int .i64 x88]]).bind fun x98 =>
 (zy (x98)).bind fun x99 =>
 (zg x99).bind fun x100 =>
 (zl (x100.1)).bind fun x101 =>
 (zg x100.2).bind fun x102 =>
 (zi (x102.1)).bind fun x103 =>
 (zg x103).bind fun x104 =>
 (asInt .i64 (x104.1)).bind fun x105 =>
 (zg x104.2).bind fun x106 =>
 (asInt .i64 (x106.1)).bind fun x107 =>
 (zh x106.2).bind fun x108 =>
 (zh x102.2).bind fun x109 =>
 some (.tuple [.slice .any x101, .agg [.int .i64 x105, .int .i64 x107]], [.map true false 6 x82, .cells [.int .i64 x86, .int .i64 x88], .arr false 7 x91, .cells [.map 0]])) (
 none)
 | .ret =>
 none) (
 none)
 | .ret =>
 none := by kernel_rfl
def zc3 (p0 : Int) (p1 : Int) (p2 : Int) (p3 : Nat) (p4 : List (List V)) (p5 : Int) (p6 : Int) (p7 : List (List V)) (p8 : Int) (p9 : Int) : St := ⟨(sp 0 44 [(1, .int .i64 p0), (5, .box [.int .i64 p1, .int .i64 p2]), (6, .arr 0 p3 7), (7, .ptr 1 0), (12, .slice .any p4), (13, .int .i64 p5), (14, .int .i64 p6)]), [.arr true 7 p7, .cells [.int .i64 p8, .int .i64 p9]]⟩
theorem ztk (C : CallT) (r0 : List (List V)) (n1 : Int) (n2 : Int) (n3 : Int) (n4 : Int) (n5 : Int) (n6 : Int) (n7 : Int) (n8 : Int) : zO GZ LZ C (.func 98) [.ptr 1 0, .agg [.int .u8 n3, .int .u8 n4, .int .u8 n5, .int .u8 n6, .int .u8 n7, .int .u8 n8]] [.arr true 7 r0, .cells [.int .i64 n1, .int .i64 n2]] =
 (C.p (.func 111) [.agg [.int .u8 n3, .int .u8 n4, .int .u8 n5, .int .u8 n6, .int .u8 n7, .int .u8 n8]]).bind fun x0 =>
 (asBool (x0)).bind fun x1 =>
 cond x1 (
 some (.tuple [], [.arr true 7 r0, .cells [.int .i64 (IntKind.wrap .i64 (n1 - 1)), .int .i64 (IntKind.wrap .i64 (n2 + 1))]])) (
 some (.tuple [], [.arr true 7 r0, .cells [.int .i64 n1, .int .i64 (IntKind.wrap .i64 (n2 + 1))]])) := by kernel_rfl
theorem e79_4 (C : CallT) (r0 : List (List V)) (n1 : Int) (n2 : Int) (n3 : Int) (n4 : Int) (n5 : Int) (r6 : List (List V)) (n7 : Int) (n8 : Int) : zp GZ LZ C 79 none 4 (zc3 n3 n4 n5 r0.length r6 n7 n8 r0 n1 n2) =
 cond (decide (n8 < n7)) (
 (zS r6 n8 7).bind fun x0 =>
 (zg x0).bind fun x1 =>
 (asInt .i64 (x1.1)).bind fun x2 =>
 (zg x1.2).bind fun x3 =>
 (asInt .u8 (x3.1)).bind fun x4 =>
 (zg x3.2).bind fun x5 =>
 (asInt .u8 (x5.1)).bind fun x6 =>
 (zg x5.2).bind fun x7 =>
 (asInt .u8 (x7.1)).bind fun x8 =>
 (zg x7.2).bind fun x9 =>
 (asInt .u8 (x9.1)).bind fun x10 =>
 (zg x9.2).bind fun x11 =>
 (asInt .u8 (x11.1)).bind fun x12 =>
 (zg x11.2).bind fun x13 =>
 (asInt .u8 (x13.1)).bind fun x14 =>
 (zh x13.2).bind fun x15 =>
 (C.p (.func 97) [.int .i64 x2, .int .i64 n3]).bind fun x16 =>
 (zy (x16)).bind fun x17 =>
 (zg x17).bind fun x18 =>
 (asInt .i64 (x18.1)).bind fun x19 =>
 (zg x18.2).bind fun x20 =>
 (asInt .i64 (x20.1)).bind fun x21 =>
 (zh x20.2).bind fun x22 =>
 cond (x19 != x21) (
 (C.s (.func 98) [.ptr 1 0, .agg [.int .u8 x4, .int .u8 x6, .int .u8 x8, .int .u8 x10, .int .u8 x12, .int .u8 x14]] [.arr true 7 r0, .cells [.int .i64 n1, .int .i64 n2]]).bind fun x23 =>
 (zy (x23.1)).bind fun x24 =>
 (zh x24).bind fun x25 =>
 (zJ x23.2).bind fun x26 =>
 (zaU true 7 x26.1).bind fun x27 =>
 (zJ x26.2).bind fun x28 =>
 (zX x28.1).bind fun x29 =>
 (zg x29).bind fun x30 =>
 (asInt .i64 (x30.1)).bind fun x31 =>
 (zg x30.2).bind fun x32 =>
 (asInt .i64 (x32.1)).bind fun x33 =>
 (zh x32.2).bind fun x34 =>
 cond (decide (r0.length = x27.length)) (
 cond (decide (((x27.length + 1) * 16) ≤ zag)) (
 some (.normal, (zc3 n3 n4 n5 (r0.length + 1) r6 n7 (IntKind.wrap .i64 (n8 + 1)) (List.append x27 [[.int .i64 x19, .int .u8 x4, .int .u8 x6, .int .u8 x8, .int .u8 x10, .int .u8 x12, .int .u8 x14]]) x31 x33))) (
 none)) (
 none)) (
 cond (decide (r0.length = r0.length)) (
 cond (decide (((r0.length + 1) * 16) ≤ zag)) (
 some (.normal, (zc3 n3 n4 n5 (r0.length + 1) r6 n7 (IntKind.wrap .i64 (n8 + 1)) (List.append r0 [[.int .i64 x19, .int .u8 x4, .int .u8 x6, .int .u8 x8, .int .u8 x10, .int .u8 x12, .int .u8 x14]]) n1 n2))) (
 none)) (
 none))) (
 some ((.exit 0), (zc3 n3 n4 n5 r0.length r6 n7 n8 r0 n1 n2))) := by kernel_rfl
theorem e79 (C : CallT) (r0 : List (List V)) (n1 : Int) : zO GZ LZ C (.func 79) [.slice .any r0, .int .i64 n1] [] =
 (C.w (zp GZ LZ C 79 none 4) (zc3 n1 0 0 0 r0 ((r0.length : Nat) : Int) 0 [] 0 0)).bind fun x0 =>
 match x0.1 with
 | .normal =>
 none
 | .exit x2 =>
 cond (Nat.beq x2 0) (
 (asInt .i64 ((nth x0.2.t 1))).bind fun x3 =>
 (zai ((nth x0.2.t 5))).bind fun x4 =>
 (zg x4).bind fun x5 =>
 (asInt .i64 (x5.1)).bind fun x6 =>
 (zg x5.2).bind fun x7 =>
 (asInt .i64 (x7.1)).bind fun x8 =>
 (zh x7.2).bind fun x9 =>
 (zcn 0 7 ((nth x0.2.t 6))).bind fun x10 =>
 (zaj 1 0 ((nth x0.2.t 7))).bind fun x11 =>
 (zl ((nth x0.2.t 12))).bind fun x12 =>
 (asInt .i64 ((nth x0.2.t 13))).bind fun x13 =>
 (asInt .i64 ((nth x0.2.t 14))).bind fun x14 =>
 (zJ x0.2.h).bind fun x15 =>
 (zaU true 7 x15.1).bind fun x16 =>
 (zJ x15.2).bind fun x17 =>
 (zX x17.1).bind fun x18 =>
 (zg x18).bind fun x19 =>
 (asInt .i64 (x19.1)).bind fun x20 =>
 (zg x19.2).bind fun x21 =>
 (asInt .i64 (x21.1)).bind fun x22 =>
 (zh x21.2).bind fun x23 =>
 (zak [.arr true 7 x16, .cells [.int .i64 x20, .int .i64 x22]] 0 x10).bind fun x24 =>
 (C.p (.func 94) [.slice .any x24, .int .i64 6, .agg [.int .i64 x20, .int .i64 x22]]).bind fun x25 =>
 (zy (x25)).bind fun x26 =>
 (zg x26).bind fun x27 =>
 (zl (x27.1)).bind fun x28 =>
 (zg x27.2).bind fun x29 =>
 (zi (x29.1)).bind fun x30 =>
 (zg x30).bind fun x31 =>
 (asInt .i64 (x31.1)).bind fun x32 =>
 (zg x31.2).bind fun x33 =>
 (asInt .i64 (x33.1)).bind fun x34 =>
 (zh x33.2).bind fun x35 =>
 (zh x29.2).bind fun x36 =>
 some (.tuple [.slice .any x28, .agg [.int .i64 x32, .int .i64 x34]], [.arr false 7 x16, .cells [.int .i64 x20, .int .i64 x22]])) (
 none)
 | .ret =>
 none := by kernel_rfl
theorem e69 (C : CallT) (r0 : List (List V)) (n1 : Int) : zO GZ LZ C (.func 69) [.slice .any r0, .int .i64 n1] [] =
 (C.p (.func 94) [.slice .any r0, .int .i64 n1, .agg [.int .i64 0, .int .i64 0]]).bind fun x0 =>
 (zy (x0)).bind fun x1 =>
 (zg x1).bind fun x2 =>
 (zl (x2.1)).bind fun x3 =>
 (zg x2.2).bind fun x4 =>
 (zi (x4.1)).bind fun x5 =>
 (zg x5).bind fun x6 =>
 (asInt .i64 (x6.1)).bind fun x7 =>
 (zg x6.2).bind fun x8 =>
 (asInt .i64 (x8.1)).bind fun x9 =>
 (zh x8.2).bind fun x10 =>
 (zh x4.2).bind fun x11 =>
 some (.tuple [.slice .any x3, .agg [.int .i64 x7, .int .i64 x9]], []) := by kernel_rfl
def zeU (p0 : Int) (p1 : Int) (p2 : List (List V)) (p3 : Int) (p4 : Int) (p5 : Int) (p6 : Int) : St := ⟨(sp 0 23 [(2, .box [.int .i64 p0, .int .i64 p1]), (3, .ptr 0 0), (6, .slice .any p2), (7, .int .i64 p3), (8, .int .i64 p4)]), [.cells [.int .i64 p5, .int .i64 p6]]⟩
theorem zrM (C : CallT) (n0 : Int) (n1 : Int) (n2 : Int) (n3 : Int) (n4 : Int) (n5 : Int) (n6 : Int) (n7 : Int) (n8 : Int) : zO GZ LZ C (.func 102) [.ptr 0 0, .int .i64 n2, .agg [.int .u8 n3, .int .u8 n4, .int .u8 n5, .int .u8 n6, .int .u8 n7, .int .u8 n8]] [.cells [.int .i64 n0, .int .i64 n1]] =
 cond ((n3 == 0) && ((n4 == 0) && ((n5 == 0) && ((n6 == 0) && ((n7 == 0) && ((n8 == 0) && true)))))) (
 some (.tuple [], [.cells [.int .i64 (IntKind.wrap .i64 (n0 + n2)), .int .i64 (IntKind.wrap .i64 (n1 + n2))]])) (
 (C.p (.func 111) [.agg [.int .u8 n3, .int .u8 n4, .int .u8 n5, .int .u8 n6, .int .u8 n7, .int .u8 n8]]).bind fun x0 =>
 (asBool (x0)).bind fun x1 =>
 cond x1 (
 some (.tuple [], [.cells [.int .i64 (IntKind.wrap .i64 (n0 - (if (IntKind.wrap .i64 (0 - n2)) > n2 then (IntKind.wrap .i64 (0 - n2)) else n2))), .int .i64 (IntKind.wrap .i64 (n1 + (if (IntKind.wrap .i64 (0 - n2)) > n2 then (IntKind.wrap .i64 (0 - n2)) else n2)))]])) (
 some (.tuple [], [.cells [.int .i64 (IntKind.wrap .i64 (n0 + (if 0 < n2 then 0 else n2))), .int .i64 (IntKind.wrap .i64 (n1 + (if 0 > n2 then 0 else n2)))]]))) := by kernel_rfl
theorem e65_3 (C : CallT) (n0 : Int) (n1 : Int) (n2 : Int) (n3 : Int) (r4 : List (List V)) (n5 : Int) (n6 : Int) : zp GZ LZ C 65 none 3 (zeU n2 n3 r4 n5 n6 n0 n1) =
 cond (decide (n6 < n5)) (
 (zS r4 n6 7).bind fun x0 =>
 (zg x0).bind fun x1 =>
 (asInt .i64 (x1.1)).bind fun x2 =>
 (zg x1.2).bind fun x3 =>
 (asInt .u8 (x3.1)).bind fun x4 =>
 (zg x3.2).bind fun x5 =>
 (asInt .u8 (x5.1)).bind fun x6 =>
 (zg x5.2).bind fun x7 =>
 (asInt .u8 (x7.1)).bind fun x8 =>
 (zg x7.2).bind fun x9 =>
 (asInt .u8 (x9.1)).bind fun x10 =>
 (zg x9.2).bind fun x11 =>
 (asInt .u8 (x11.1)).bind fun x12 =>
 (zg x11.2).bind fun x13 =>
 (asInt .u8 (x13.1)).bind fun x14 =>
 (zh x13.2).bind fun x15 =>
 (C.s (.func 102) [.ptr 0 0, .int .i64 x2, .agg [.int .u8 x4, .int .u8 x6, .int .u8 x8, .int .u8 x10, .int .u8 x12, .int .u8 x14]] [.cells [.int .i64 n0, .int .i64 n1]]).bind fun x16 =>
 (zy (x16.1)).bind fun x17 =>
 (zh x17).bind fun x18 =>
 (zJ x16.2).bind fun x19 =>
 (zX x19.1).bind fun x20 =>
 (zg x20).bind fun x21 =>
 (asInt .i64 (x21.1)).bind fun x22 =>
 (zg x21.2).bind fun x23 =>
 (asInt .i64 (x23.1)).bind fun x24 =>
 (zh x23.2).bind fun x25 =>
 some (.normal, (zeU n2 n3 r4 n5 (IntKind.wrap .i64 (n6 + 1)) x22 x24))) (
 some ((.exit 0), (zeU n2 n3 r4 n5 n6 n0 n1))) := by kernel_rfl
theorem e65 (C : CallT) (r0 : List (List V)) : zO GZ LZ C (.func 65) [.slice .any r0] [] =
 (C.w (zp GZ LZ C 65 none 3) (zeU 0 0 r0 ((r0.length : Nat) : Int) 0 0 0)).bind fun x0 =>
 match x0.1 with
 | .normal =>
 none
 | .exit x2 =>
 cond (Nat.beq x2 0) (
 (zai ((nth x0.2.t 2))).bind fun x3 =>
 (zg x3).bind fun x4 =>
 (asInt .i64 (x4.1)).bind fun x5 =>
 (zg x4.2).bind fun x6 =>
 (asInt .i64 (x6.1)).bind fun x7 =>
 (zh x6.2).bind fun x8 =>
 (zaj 0 0 ((nth x0.2.t 3))).bind fun x9 =>
 (zl ((nth x0.2.t 6))).bind fun x10 =>
 (asInt .i64 ((nth x0.2.t 7))).bind fun x11 =>
 (asInt .i64 ((nth x0.2.t 8))).bind fun x12 =>
 (zJ x0.2.h).bind fun x13 =>
 (zX x13.1).bind fun x14 =>
 (zg x14).bind fun x15 =>
 (asInt .i64 (x15.1)).bind fun x16 =>
 (zg x15.2).bind fun x17 =>
 (asInt .i64 (x17.1)).bind fun x18 =>
 (zh x17.2).bind fun x19 =>
 (C.p (.func 75) [.int .i64 x16, .int .i64 x18]).bind fun x20 =>
 (zi (x20)).bind fun x21 =>
 (zg x21).bind fun x22 =>
 (asInt .i64 (x22.1)).bind fun x23 =>
 (zg x22.2).bind fun x24 =>
 (asInt .i64 (x24.1)).bind fun x25 =>
 (zh x24.2).bind fun x26 =>
 some (.agg [.int .i64 x23, .int .i64 x25], [.cells [.int .i64 x16, .int .i64 x18]])) (
 none)
 | .ret =>
 none := by kernel_rfl
def zll (p0 : Int) (p1 : Int) (p2 : Int) (p3 : Int) (p4 : List (List V)) (p5 : Int) (p6 : Int) (p7 : List (List V)) (p8 : List (List V × List V)) : St := ⟨(sp 0 45 [(4, .box [.int .i64 p0, .int .i64 p1]), (5, .fn (.func 115) [] [.ptr 2 0, .ptr 0 0, .ptr 3 0]), (6, .box [.int .i64 p2, .int .i64 p3]), (15, .slice .any p4), (16, .int .i64 p5), (17, .int .i64 p6)]), [.cells [.slice .any p7], .map true true 2 p8, .cells [.map 1], .cells [.fn (.func 115) [] [.ptr 2 0, .ptr 0 0, .ptr 3 0]]]⟩
def zhW (p0 : Int) (p1 : Int) (p2 : Int) (p3 : Int) (p4 : Int) (p5 : Int) (p6 : List (List V)) (p7 : Int) (p8 : Int) (p9 : Int) (p10 : Int) (p11 : Int) (p12 : Int) (p13 : Int) (p14 : Int) (p15 : Int) (p16 : List (List V)) (p17 : List (List V × List V)) : St := ⟨(sp 0 45 [(4, .box [.int .i64 p0, .int .i64 p1]), (5, .fn (.func 115) [] [.ptr 2 0, .ptr 0 0, .ptr 3 0]), (6, .box [.int .i64 p2, .int .i64 p3]), (9, .box [.int .i64 p4, .int .i64 p5]), (15, .slice .any p6), (16, .int .i64 p7), (17, .int .i64 p8), (25, .agg [.int .u8 p9, .int .u8 p10, .int .u8 p11, .int .u8 p12, .int .u8 p13, .int .u8 p14]), (26, .int .i64 p15)]), [.cells [.slice .any p16], .map true true 2 p17, .cells [.map 1], .cells [.fn (.func 115) [] [.ptr 2 0, .ptr 0 0, .ptr 3 0]]]⟩
theorem zrN (C : CallT) (r0 : List (List V)) (m1 : List (List V × List V)) (n2 : Int) (n3 : Int) : zO GZ LZ C (.func 115) [.int .i64 n2, .int .i64 n3, .ptr 2 0, .ptr 0 0, .ptr 3 0] [.cells [.slice .any r0], .map true true 2 m1, .cells [.map 1], .cells [.fn (.func 115) [] [.ptr 2 0, .ptr 0 0, .ptr 3 0]]] =
 (zaw (eqT GP 8 126) [.int .i64 n2, .int .i64 n3] m1).bind fun x0 =>
 match x0 with
 | none =>
 cond (n3 == 1) (
 cond (decide (n2 < ((r0.length : Nat) : Int))) (
 (zS r0 n2 2).bind fun x228 =>
 (zg x228).bind fun x229 =>
 (asInt .i64 (x229.1)).bind fun x230 =>
 (zg x229.2).bind fun x231 =>
 (asInt .i64 (x231.1)).bind fun x232 =>
 (zh x231.2).bind fun x233 =>
 (zaw (eqT GP 8 126) [.int .i64 n2, .int .i64 n3] m1).bind fun x234 =>
 some (.agg [.int .i64 x230, .int .i64 x232], [.cells [.slice .any r0], .map true true 2 (zeH m1 x234 [.int .i64 n2, .int .i64 n3] [.int .i64 x230, .int .i64 x232]), .cells [.map 1], .cells [.fn (.func 115) [] [.ptr 2 0, .ptr 0 0, .ptr 3 0]]])) (
 cond (n3 == 1) (
 (zaw (eqT GP 8 126) [.int .i64 n2, .int .i64 n3] m1).bind fun x227 =>
 some (.agg [.int .i64 (-65536), .int .i64 65536], [.cells [.slice .any r0], .map true true 2 (zeH m1 x227 [.int .i64 n2, .int .i64 n3] [.int .i64 (-65536), .int .i64 65536]), .cells [.map 1], .cells [.fn (.func 115) [] [.ptr 2 0, .ptr 0 0, .ptr 3 0]]])) (
 cond ((Int.tmod n3 2) == 0) (
 (C.s (.func 115) [.int .i64 n2, .int .i64 (IntKind.wrap .i64 (Int.tdiv n3 2)), .ptr 2 0, .ptr 0 0, .ptr 3 0] [.cells [.slice .any r0], .map true true 2 m1, .cells [.map 1], .cells [.fn (.func 115) [] [.ptr 2 0, .ptr 0 0, .ptr 3 0]]]).bind fun x187 =>
 (zi (x187.1)).bind fun x188 =>
 (zg x188).bind fun x189 =>
 (asInt .i64 (x189.1)).bind fun x190 =>
 (zg x189.2).bind fun x191 =>
 (asInt .i64 (x191.1)).bind fun x192 =>
 (zh x191.2).bind fun x193 =>
 (zJ x187.2).bind fun x194 =>
 (zX x194.1).bind fun x195 =>
 (zg x195).bind fun x196 =>
 (zl (x196.1)).bind fun x197 =>
 (zh x196.2).bind fun x198 =>
 (zJ x194.2).bind fun x199 =>
 (zbU true true 2 x199.1).bind fun x200 =>
 (zJ x199.2).bind fun x201 =>
 (zX x201.1).bind fun x202 =>
 (zg x202).bind fun x203 =>
 (zbm 1 (x203.1)).bind fun x204 =>
 (zh x203.2).bind fun x205 =>
 (zJ x201.2).bind fun x206 =>
 (zX x206.1).bind fun x207 =>
 (zg x207).bind fun x208 =>
 (zcm (.func 115) (x208.1)).bind fun x209 =>
 (zh x209.1).bind fun x210 =>
 (zg x209.2).bind fun x211 =>
 (zaj 2 0 (x211.1)).bind fun x212 =>
 (zg x211.2).bind fun x213 =>
 (zaj 0 0 (x213.1)).bind fun x214 =>
 (zg x213.2).bind fun x215 =>
 (zaj 3 0 (x215.1)).bind fun x216 =>
 (zh x215.2).bind fun x217 =>
 (zh x208.2).bind fun x218 =>
 (C.p (.func 116) [.agg [.int .i64 x190, .int .i64 x192]]).bind fun x219 =>
 (zi (x219)).bind fun x220 =>
 (zg x220).bind fun x221 =>
 (asInt .i64 (x221.1)).bind fun x222 =>
 (zg x221.2).bind fun x223 =>
 (asInt .i64 (x223.1)).bind fun x224 =>
 (zh x223.2).bind fun x225 =>
 (zaw (eqT GP 8 126) [.int .i64 n2, .int .i64 n3] x200).bind fun x226 =>
 some (.agg [.int .i64 x222, .int .i64 x224], [.cells [.slice .any x197], .map true true 2 (zeH x200 x226 [.int .i64 n2, .int .i64 n3] [.int .i64 x222, .int .i64 x224]), .cells [.map 1], .cells [.fn (.func 115) [] [.ptr 2 0, .ptr 0 0, .ptr 3 0]]])) (
 (C.s (.func 115) [.int .i64 n2, .int .i64 (IntKind.wrap .i64 (n3 - 1)), .ptr 2 0, .ptr 0 0, .ptr 3 0] [.cells [.slice .any r0], .map true true 2 m1, .cells [.map 1], .cells [.fn (.func 115) [] [.ptr 2 0, .ptr 0 0, .ptr 3 0]]]).bind fun x115 =>
 (zi (x115.1)).bind fun x116 =>
 (zg x116).bind fun x117 =>
 (asInt .i64 (x117.1)).bind fun x118 =>
 (zg x117.2).bind fun x119 =>
 (asInt .i64 (x119.1)).bind fun x120 =>
 (zh x119.2).bind fun x121 =>
 (zJ x115.2).bind fun x122 =>
 (zX x122.1).bind fun x123 =>
 (zg x123).bind fun x124 =>
 (zl (x124.1)).bind fun x125 =>
 (zh x124.2).bind fun x126 =>
 (zJ x122.2).bind fun x127 =>
 (zbU true true 2 x127.1).bind fun x128 =>
 (zJ x127.2).bind fun x129 =>
 (zX x129.1).bind fun x130 =>
 (zg x130).bind fun x131 =>
 (zbm 1 (x131.1)).bind fun x132 =>
 (zh x131.2).bind fun x133 =>
 (zJ x129.2).bind fun x134 =>
 (zX x134.1).bind fun x135 =>
 (zg x135).bind fun x136 =>
 (zcm (.func 115) (x136.1)).bind fun x137 =>
 (zh x137.1).bind fun x138 =>
 (zg x137.2).bind fun x139 =>
 (zaj 2 0 (x139.1)).bind fun x140 =>
 (zg x139.2).bind fun x141 =>
 (zaj 0 0 (x141.1)).bind fun x142 =>
 (zg x141.2).bind fun x143 =>
 (zaj 3 0 (x143.1)).bind fun x144 =>
 (zh x143.2).bind fun x145 =>
 (zh x136.2).bind fun x146 =>
 (C.s (.func 115) [.int .i64 n2, .int .i64 1, .ptr 2 0, .ptr 0 0, .ptr 3 0] [.cells [.slice .any x125], .map true true 2 x128, .cells [.map 1], .cells [.fn (.func 115) [] [.ptr 2 0, .ptr 0 0, .ptr 3 0]]]).bind fun x147 =>
 (zi (x147.1)).bind fun x148 =>
 (zg x148).bind fun x149 =>
 (asInt .i64 (x149.1)).bind fun x150 =>
 (zg x149.2).bind fun x151 =>
 (asInt .i64 (x151.1)).bind fun x152 =>
 (zh x151.2).bind fun x153 =>
 (zJ x147.2).bind fun x154 =>
 (zX x154.1).bind fun x155 =>
 (zg x155).bind fun x156 =>
 (zl (x156.1)).bind fun x157 =>
 (zh x156.2).bind fun x158 =>
 (zJ x154.2).bind fun x159 =>
 (zbU true true 2 x159.1).bind fun x160 =>
 (zJ x159.2).bind fun x161 =>
 (zX x161.1).bind fun x162 =>
 (zg x162).bind fun x163 =>
 (zbm 1 (x163.1)).bind fun x164 =>
 (zh x163.2).bind fun x165 =>
 (zJ x161.2).bind fun x166 =>
 (zX x166.1).bind fun x167 =>
 (zg x167).bind fun x168 =>
 (zcm (.func 115) (x168.1)).bind fun x169 =>
 (zh x169.1).bind fun x170 =>
 (zg x169.2).bind fun x171 =>
 (zaj 2 0 (x171.1)).bind fun x172 =>
 (zg x171.2).bind fun x173 =>
 (zaj 0 0 (x173.1)).bind fun x174 =>
 (zg x173.2).bind fun x175 =>
 (zaj 3 0 (x175.1)).bind fun x176 =>
 (zh x175.2).bind fun x177 =>
 (zh x168.2).bind fun x178 =>
 (C.p (.func 64) [.agg [.int .i64 x118, .int .i64 x120], .agg [.int .i64 x150, .int .i64 x152]]).bind fun x179 =>
 (zi (x179)).bind fun x180 =>
 (zg x180).bind fun x181 =>
 (asInt .i64 (x181.1)).bind fun x182 =>
 (zg x181.2).bind fun x183 =>
 (asInt .i64 (x183.1)).bind fun x184 =>
 (zh x183.2).bind fun x185 =>
 (zaw (eqT GP 8 126) [.int .i64 n2, .int .i64 n3] x160).bind fun x186 =>
 some (.agg [.int .i64 x182, .int .i64 x184], [.cells [.slice .any x157], .map true true 2 (zeH x160 x186 [.int .i64 n2, .int .i64 n3] [.int .i64 x182, .int .i64 x184]), .cells [.map 1], .cells [.fn (.func 115) [] [.ptr 2 0, .ptr 0 0, .ptr 3 0]]]))))) (
 cond (n3 == 1) (
 (zaw (eqT GP 8 126) [.int .i64 n2, .int .i64 n3] m1).bind fun x114 =>
 some (.agg [.int .i64 (-65536), .int .i64 65536], [.cells [.slice .any r0], .map true true 2 (zeH m1 x114 [.int .i64 n2, .int .i64 n3] [.int .i64 (-65536), .int .i64 65536]), .cells [.map 1], .cells [.fn (.func 115) [] [.ptr 2 0, .ptr 0 0, .ptr 3 0]]])) (
 cond ((Int.tmod n3 2) == 0) (
 (C.s (.func 115) [.int .i64 n2, .int .i64 (IntKind.wrap .i64 (Int.tdiv n3 2)), .ptr 2 0, .ptr 0 0, .ptr 3 0] [.cells [.slice .any r0], .map true true 2 m1, .cells [.map 1], .cells [.fn (.func 115) [] [.ptr 2 0, .ptr 0 0, .ptr 3 0]]]).bind fun x74 =>
 (zi (x74.1)).bind fun x75 =>
 (zg x75).bind fun x76 =>
 (asInt .i64 (x76.1)).bind fun x77 =>
 (zg x76.2).bind fun x78 =>
 (asInt .i64 (x78.1)).bind fun x79 =>
 (zh x78.2).bind fun x80 =>
 (zJ x74.2).bind fun x81 =>
 (zX x81.1).bind fun x82 =>
 (zg x82).bind fun x83 =>
 (zl (x83.1)).bind fun x84 =>
 (zh x83.2).bind fun x85 =>
 (zJ x81.2).bind fun x86 =>
 (zbU true true 2 x86.1).bind fun x87 =>
 (zJ x86.2).bind fun x88 =>
 (zX x88.1).bind fun x89 =>
 (zg x89).bind fun x90 =>
 (zbm 1 (x90.1)).bind fun x91 =>
 (zh x90.2).bind fun x92 =>
 (zJ x88.2).bind fun x93 =>
 (zX x93.1).bind fun x94 =>
 (zg x94).bind fun x95 =>
 (zcm (.func 115) (x95.1)).bind fun x96 =>
 (zh x96.1).bind fun x97 =>
 (zg x96.2).bind fun x98 =>
 (zaj 2 0 (x98.1)).bind fun x99 =>
 (zg x98.2).bind fun x100 =>
 (zaj 0 0 (x100.1)).bind fun x101 =>
 (zg x100.2).bind fun x102 =>
 (zaj 3 0 (x102.1)).bind fun x103 =>
 (zh x102.2).bind fun x104 =>
 (zh x95.2).bind fun x105 =>
 (C.p (.func 116) [.agg [.int .i64 x77, .int .i64 x79]]).bind fun x106 =>
 (zi (x106)).bind fun x107 =>
 (zg x107).bind fun x108 =>
 (asInt .i64 (x108.1)).bind fun x109 =>
 (zg x108.2).bind fun x110 =>
 (asInt .i64 (x110.1)).bind fun x111 =>
 (zh x110.2).bind fun x112 =>
 (zaw (eqT GP 8 126) [.int .i64 n2, .int .i64 n3] x87).bind fun x113 =>
 some (.agg [.int .i64 x109, .int .i64 x111], [.cells [.slice .any x84], .map true true 2 (zeH x87 x113 [.int .i64 n2, .int .i64 n3] [.int .i64 x109, .int .i64 x111]), .cells [.map 1], .cells [.fn (.func 115) [] [.ptr 2 0, .ptr 0 0, .ptr 3 0]]])) (
 (C.s (.func 115) [.int .i64 n2, .int .i64 (IntKind.wrap .i64 (n3 - 1)), .ptr 2 0, .ptr 0 0, .ptr 3 0] [.cells [.slice .any r0], .map true true 2 m1, .cells [.map 1], .cells [.fn (.func 115) [] [.ptr 2 0, .ptr 0 0, .ptr 3 0]]]).bind fun x2 =>
 (zi (x2.1)).bind fun x3 =>
 (zg x3).bind fun x4 =>
 (asInt .i64 (x4.1)).bind fun x5 =>
 (zg x4.2).bind fun x6 =>
 (asInt .i64 (x6.1)).bind fun x7 =>
 (zh x6.2).bind fun x8 =>
 (zJ x2.2).bind fun x9 =>
 (zX x9.1).bind fun x10 =>
 (zg x10).bind fun x11 =>
 (zl (x11.1)).bind fun x12 =>
 (zh x11.2).bind fun x13 =>
 (zJ x9.2).bind fun x14 =>
 (zbU true true 2 x14.1).bind fun x15 =>
 (zJ x14.2).bind fun x16 =>
 (zX x16.1).bind fun x17 =>
 (zg x17).bind fun x18 =>
 (zbm 1 (x18.1)).bind fun x19 =>
 (zh x18.2).bind fun x20 =>
 (zJ x16.2).bind fun x21 =>
 (zX x21.1).bind fun x22 =>
 (zg x22).bind fun x23 =>
 (zcm (.func 115) (x23.1)).bind fun x24 =>
 (zh x24.1).bind fun x25 =>
 (zg x24.2).bind fun x26 =>
 (zaj 2 0 (x26.1)).bind fun x27 =>
 (zg x26.2).bind fun x28 =>
 (zaj 0 0 (x28.1)).bind fun x29 =>
 (zg x28.2).bind fun x30 =>
 (zaj 3 0 (x30.1)).bind fun x31 =>
 (zh x30.2).bind fun x32 =>
 (zh x23.2).bind fun x33 =>
 (C.s (.func 115) [.int .i64 n2, .int .i64 1, .ptr 2 0, .ptr 0 0, .ptr 3 0] [.cells [.slice .any x12], .map true true 2 x15, .cells [.map 1], .cells [.fn (.func 115) [] [.ptr 2 0, .ptr 0 0, .ptr 3 0]]]).bind fun x34 =>
 (zi (x34.1)).bind fun x35 =>
 (zg x35).bind fun x36 =>
 (asInt .i64 (x36.1)).bind fun x37 =>
 (zg x36.2).bind fun x38 =>
 (asInt .i64 (x38.1)).bind fun x39 =>
 (zh x38.2).bind fun x40 =>
 (zJ x34.2).bind fun x41 =>
 (zX x41.1).bind fun x42 =>
 (zg x42).bind fun x43 =>
 (zl (x43.1)).bind fun x44 =>
 (zh x43.2).bind fun x45 =>
 (zJ x41.2).bind fun x46 =>
 (zbU true true 2 x46.1).bind fun x47 =>
 (zJ x46.2).bind fun x48 =>
 (zX x48.1).bind fun x49 =>
 (zg x49).bind fun x50 =>
 (zbm 1 (x50.1)).bind fun x51 =>
 (zh x50.2).bind fun x52 =>
 (zJ x48.2).bind fun x53 =>
 (zX x53.1).bind fun x54 =>
 (zg x54).bind fun x55 =>
 (zcm (.func 115) (x55.1)).bind fun x56 =>
 (zh x56.1).bind fun x57 =>
 (zg x56.2).bind fun x58 =>
 (zaj 2 0 (x58.1)).bind fun x59 =>
 (zg x58.2).bind fun x60 =>
 (zaj 0 0 (x60.1)).bind fun x61 =>
 (zg x60.2).bind fun x62 =>
 (zaj 3 0 (x62.1)).bind fun x63 =>
 (zh x62.2).bind fun x64 =>
 (zh x55.2).bind fun x65 =>
 (C.p (.func 64) [.agg [.int .i64 x5, .int .i64 x7], .agg [.int .i64 x37, .int .i64 x39]]).bind fun x66 =>
 (zi (x66)).bind fun x67 =>
 (zg x67).bind fun x68 =>
 (asInt .i64 (x68.1)).bind fun x69 =>
 (zg x68.2).bind fun x70 =>
 (asInt .i64 (x70.1)).bind fun x71 =>
 (zh x70.2).bind fun x72 =>
 (zaw (eqT GP 8 126) [.int .i64 n2, .int .i64 n3] x47).bind fun x73 =>
 some (.agg [.int .i64 x69, .int .i64 x71], [.cells [.slice .any x44], .map true true 2 (zeH x47 x73 [.int .i64 n2, .int .i64 n3] [.int .i64 x69, .int .i64 x71]), .cells [.map 1], .cells [.fn (.func 115) [] [.ptr 2 0, .ptr 0 0, .ptr 3 0]]]))))
 | some x1 =>
 (zeG m1 x1).bind fun x235 =>
 (zg x235).bind fun x236 =>
 (asInt .i64 (x236.1)).bind fun x237 =>
 (zg x236.2).bind fun x238 =>
 (asInt .i64 (x238.1)).bind fun x239 =>
 (zh x238.2).bind fun x240 =>
 some (.agg [.int .i64 x237, .int .i64 x239], [.cells [.slice .any r0], .map true true 2 m1, .cells [.map 1], .cells [.fn (.func 115) [] [.ptr 2 0, .ptr 0 0, .ptr 3 0]]]) := by kernel_rfl
theorem zqp (C : CallT) (r0 : List (List V)) (m1 : List (List V × List V)) (n2 : Int) (n3 : Int) (n4 : Int) (n5 : Int) (n6 : Int) (n7 : Int) (r8 : List (List V)) (n9 : Int) (n10 : Int) (n11 : Int) (n12 : Int) (n13 : Int) (n14 : Int) (n15 : Int) (n16 : Int) (n17 : Int) : zp GZ LZ C 83 none 8 (zhW n2 n3 n4 n5 n6 n7 r8 n9 n10 n11 n12 n13 n14 n15 n16 n17 r0 m1) =
 cond (decide (n17 < 6)) (
 cond (decide (0 ≤ n17)) (
 cond (decide (n17.toNat < 6)) (
 (za5 [n11, n12, n13, n14, n15, n16] (n17.toNat * 1)).bind fun x0 =>
 cond (decide (x0 > 0)) (
 (C.s (.func 115) [.int .i64 n17, .int .i64 (IntKind.wrap .i64 x0), .ptr 2 0, .ptr 0 0, .ptr 3 0] [.cells [.slice .any r0], .map true true 2 m1, .cells [.map 1], .cells [.fn (.func 115) [] [.ptr 2 0, .ptr 0 0, .ptr 3 0]]]).bind fun x1 =>
 (zi (x1.1)).bind fun x2 =>
 (zg x2).bind fun x3 =>
 (asInt .i64 (x3.1)).bind fun x4 =>
 (zg x3.2).bind fun x5 =>
 (asInt .i64 (x5.1)).bind fun x6 =>
 (zh x5.2).bind fun x7 =>
 (zJ x1.2).bind fun x8 =>
 (zX x8.1).bind fun x9 =>
 (zg x9).bind fun x10 =>
 (zl (x10.1)).bind fun x11 =>
 (zh x10.2).bind fun x12 =>
 (zJ x8.2).bind fun x13 =>
 (zbU true true 2 x13.1).bind fun x14 =>
 (zJ x13.2).bind fun x15 =>
 (zX x15.1).bind fun x16 =>
 (zg x16).bind fun x17 =>
 (zbm 1 (x17.1)).bind fun x18 =>
 (zh x17.2).bind fun x19 =>
 (zJ x15.2).bind fun x20 =>
 (zX x20.1).bind fun x21 =>
 (zg x21).bind fun x22 =>
 (zcm (.func 115) (x22.1)).bind fun x23 =>
 (zh x23.1).bind fun x24 =>
 (zg x23.2).bind fun x25 =>
 (zaj 2 0 (x25.1)).bind fun x26 =>
 (zg x25.2).bind fun x27 =>
 (zaj 0 0 (x27.1)).bind fun x28 =>
 (zg x27.2).bind fun x29 =>
 (zaj 3 0 (x29.1)).bind fun x30 =>
 (zh x29.2).bind fun x31 =>
 (zh x22.2).bind fun x32 =>
 (C.p (.func 64) [.agg [.int .i64 n6, .int .i64 n7], .agg [.int .i64 x4, .int .i64 x6]]).bind fun x33 =>
 (zi (x33)).bind fun x34 =>
 (zg x34).bind fun x35 =>
 (asInt .i64 (x35.1)).bind fun x36 =>
 (zg x35.2).bind fun x37 =>
 (asInt .i64 (x37.1)).bind fun x38 =>
 (zh x37.2).bind fun x39 =>
 some (.normal, (zhW n2 n3 n4 n5 x36 x38 r8 n9 n10 n11 n12 n13 n14 n15 n16 (IntKind.wrap .i64 (n17 + 1)) x11 x14))) (
 some (.normal, (zhW n2 n3 n4 n5 n6 n7 r8 n9 n10 n11 n12 n13 n14 n15 n16 (IntKind.wrap .i64 (n17 + 1)) r0 m1)))) (
 none)) (
 none)) (
 some ((.exit 2), (zhW n2 n3 n4 n5 n6 n7 r8 n9 n10 n11 n12 n13 n14 n15 n16 n17 r0 m1))) := by kernel_rfl
theorem e83_4 (C : CallT) (r0 : List (List V)) (m1 : List (List V × List V)) (n2 : Int) (n3 : Int) (n4 : Int) (n5 : Int) (r6 : List (List V)) (n7 : Int) (n8 : Int) : zp GZ LZ C 83 none 4 (zll n2 n3 n4 n5 r6 n7 n8 r0 m1) =
 cond (decide (n8 < n7)) (
 (zS r6 n8 7).bind fun x0 =>
 (zg x0).bind fun x1 =>
 (asInt .i64 (x1.1)).bind fun x2 =>
 (zg x1.2).bind fun x3 =>
 (asInt .u8 (x3.1)).bind fun x4 =>
 (zg x3.2).bind fun x5 =>
 (asInt .u8 (x5.1)).bind fun x6 =>
 (zg x5.2).bind fun x7 =>
 (asInt .u8 (x7.1)).bind fun x8 =>
 (zg x7.2).bind fun x9 =>
 (asInt .u8 (x9.1)).bind fun x10 =>
 (zg x9.2).bind fun x11 =>
 (asInt .u8 (x11.1)).bind fun x12 =>
 (zg x11.2).bind fun x13 =>
 (asInt .u8 (x13.1)).bind fun x14 =>
 (zh x13.2).bind fun x15 =>
 (C.p (.func 107) [.int .i64 x2]).bind fun x16 =>
 (zi (x16)).bind fun x17 =>
 (zg x17).bind fun x18 =>
 (asInt .i64 (x18.1)).bind fun x19 =>
 (zg x18.2).bind fun x20 =>
 (asInt .i64 (x20.1)).bind fun x21 =>
 (zh x20.2).bind fun x22 =>
 (C.w (zp GZ LZ C 83 none 8) (zhW n2 n3 n4 n5 x19 x21 r6 n7 n8 x4 x6 x8 x10 x12 x14 0 r0 m1)).bind fun x23 =>
 match x23.1 with
 | .normal =>
 none
 | .exit x25 =>
 cond (Nat.beq x25 2) (
 (zai ((nth x23.2.t 4))).bind fun x26 =>
 (zg x26).bind fun x27 =>
 (asInt .i64 (x27.1)).bind fun x28 =>
 (zg x27.2).bind fun x29 =>
 (asInt .i64 (x29.1)).bind fun x30 =>
 (zh x29.2).bind fun x31 =>
 (zcm (.func 115) ((nth x23.2.t 5))).bind fun x32 =>
 (zh x32.1).bind fun x33 =>
 (zg x32.2).bind fun x34 =>
 (zaj 2 0 (x34.1)).bind fun x35 =>
 (zg x34.2).bind fun x36 =>
 (zaj 0 0 (x36.1)).bind fun x37 =>
 (zg x36.2).bind fun x38 =>
 (zaj 3 0 (x38.1)).bind fun x39 =>
 (zh x38.2).bind fun x40 =>
 (zai ((nth x23.2.t 6))).bind fun x41 =>
 (zg x41).bind fun x42 =>
 (asInt .i64 (x42.1)).bind fun x43 =>
 (zg x42.2).bind fun x44 =>
 (asInt .i64 (x44.1)).bind fun x45 =>
 (zh x44.2).bind fun x46 =>
 (zai ((nth x23.2.t 9))).bind fun x47 =>
 (zg x47).bind fun x48 =>
 (asInt .i64 (x48.1)).bind fun x49 =>
 (zg x48.2).bind fun x50 =>
 (asInt .i64 (x50.1)).bind fun x51 =>
 (zh x50.2).bind fun x52 =>
 (zl ((nth x23.2.t 15))).bind fun x53 =>
 (asInt .i64 ((nth x23.2.t 16))).bind fun x54 =>
 (asInt .i64 ((nth x23.2.t 17))).bind fun x55 =>
 (zi ((nth x23.2.t 25))).bind fun x56 =>
 (zg x56).bind fun x57 =>
 (asInt .u8 (x57.1)).bind fun x58 =>
 (zg x57.2).bind fun x59 =>
 (asInt .u8 (x59.1)).bind fun x60 =>
 (zg x59.2).bind fun x61 =>
 (asInt .u8 (x61.1)).bind fun x62 =>
 (zg x61.2).bind fun x63 =>
 (asInt .u8 (x63.1)).bind fun x64 =>
 (zg x63.2).bind fun x65 =>
 (asInt .u8 (x65.1)).bind fun x66 =>
 (zg x65.2).bind fun x67 =>
 (asInt .u8 (x67.1)).bind fun x68 =>
 (zh x67.2).bind fun x69 =>
 (asInt .i64 ((nth x23.2.t 26))).bind fun x70 =>
 (zJ x23.2.h).bind fun x71 =>
 (zX x71.1).bind fun x72 =>
 (zg x72).bind fun x73 =>
 (zl (x73.1)).bind fun x74 =>
 (zh x73.2).bind fun x75 =>
 (zJ x71.2).bind fun x76 =>
 (zbU true true 2 x76.1).bind fun x77 =>
 (zJ x76.2).bind fun x78 =>
 (zX x78.1).bind fun x79 =>
 (zg x79).bind fun x80 =>
 (zbm 1 (x80.1)).bind fun x81 =>
 (zh x80.2).bind fun x82 =>
 (zJ x78.2).bind fun x83 =>
 (zX x83.1).bind fun x84 =>
 (zg x84).bind fun x85 =>
 (zcm (.func 115) (x85.1)).bind fun x86 =>
 (zh x86.1).bind fun x87 =>
 (zg x86.2).bind fun x88 =>
 (zaj 2 0 (x88.1)).bind fun x89 =>
 (zg x88.2).bind fun x90 =>
 (zaj 0 0 (x90.1)).bind fun x91 =>
 (zg x90.2).bind fun x92 =>
 (zaj 3 0 (x92.1)).bind fun x93 =>
 (zh x92.2).bind fun x94 =>
 (zh x85.2).bind fun x95 =>
 (C.p (.func 71) [.agg [.int .i64 x43, .int .i64 x45], .agg [.int .i64 x49, .int .i64 x51]]).bind fun x96 =>
 (zi (x96)).bind fun x97 =>
 (zg x97).bind fun x98 =>
 (asInt .i64 (x98.1)).bind fun x99 =>
 (zg x98.2).bind fun x100 =>
 (asInt .i64 (x100.1)).bind fun x101 =>
 (zh x100.2).bind fun x102 =>
 some (.normal, (zll x28 x30 x99 x101 x53 x54 (IntKind.wrap .i64 (x55 + 1)) x74 x77))) (
 none)
 | .ret =>
 none) (
 some ((.exit 0), (zll n2 n3 n4 n5 r6 n7 n8 r0 m1))) := by kernel_rfl
theorem zrO (C : CallT) (r0 : List (List V)) : zO GZ LZ C (.func 106) [.slice .any r0] [] =
 some (.fn (.func 115) [] [.ptr 2 0, .ptr 0 0, .ptr 3 0], [.cells [.slice .any r0], .map true true 2 [], .cells [.map 1], .cells [.fn (.func 115) [] [.ptr 2 0, .ptr 0 0, .ptr 3 0]]]) := by kernel_rfl
theorem e83 (C : CallT) (r0 : List (List V)) (r1 : List (List V)) : zO GZ LZ C (.func 83) [.slice .any r0, .slice .any r1] [] =
 (C.s (.func 106) [.slice .any r1] []).bind fun x0 =>
 (zcm (.func 115) (x0.1)).bind fun x1 =>
 (zh x1.1).bind fun x2 =>
 (zg x1.2).bind fun x3 =>
 (zaj 2 0 (x3.1)).bind fun x4 =>
 (zg x3.2).bind fun x5 =>
 (zaj 0 0 (x5.1)).bind fun x6 =>
 (zg x5.2).bind fun x7 =>
 (zaj 3 0 (x7.1)).bind fun x8 =>
 (zh x7.2).bind fun x9 =>
 (zJ x0.2).bind fun x10 =>
 (zX x10.1).bind fun x11 =>
 (zg x11).bind fun x12 =>
 (zl (x12.1)).bind fun x13 =>
 (zh x12.2).bind fun x14 =>
 (zJ x10.2).bind fun x15 =>
 (zbU true true 2 x15.1).bind fun x16 =>
 (zJ x15.2).bind fun x17 =>
 (zX x17.1).bind fun x18 =>
 (zg x18).bind fun x19 =>
 (zbm 1 (x19.1)).bind fun x20 =>
 (zh x19.2).bind fun x21 =>
 (zJ x17.2).bind fun x22 =>
 (zX x22.1).bind fun x23 =>
 (zg x23).bind fun x24 =>
 (zcm (.func 115) (x24.1)).bind fun x25 =>
 (zh x25.1).bind fun x26 =>
 (zg x25.2).bind fun x27 =>
 (zaj 2 0 (x27.1)).bind fun x28 =>
 (zg x27.2).bind fun x29 =>
 (zaj 0 0 (x29.1)).bind fun x30 =>
 (zg x29.2).bind fun x31 =>
 (zaj 3 0 (x31.1)).bind fun x32 =>
 (zh x31.2).bind fun x33 =>
 (zh x24.2).bind fun x34 =>
 (C.p (.func 107) [.int .i64 0]).bind fun x35 =>
 (zi (x35)).bind fun x36 =>
 (zg x36).bind fun x37 =>
 (asInt .i64 (x37.1)).bind fun x38 =>
 (zg x37.2).bind fun x39 =>
 (asInt .i64 (x39.1)).bind fun x40 =>
 (zh x39.2).bind fun x41 =>
 (C.w (zp GZ LZ C 83 none 4) (zll 0 0 x38 x40 r0 ((r0.length : Nat) : Int) 0 x13 x16)).bind fun x42 =>
 match x42.1 with
 | .normal =>
 none
 | .exit x44 =>
 cond (Nat.beq x44 0) (
 (zai ((nth x42.2.t 4))).bind fun x45 =>
 (zg x45).bind fun x46 =>
 (asInt .i64 (x46.1)).bind fun x47 =>
 (zg x46.2).bind fun x48 =>
 (asInt .i64 (x48.1)).bind fun x49 =>
 (zh x48.2).bind fun x50 =>
 (zcm (.func 115) ((nth x42.2.t 5))).bind fun x51 =>
 (zh x51.1).bind fun x52 =>
 (zg x51.2).bind fun x53 =>
 (zaj 2 0 (x53.1)).bind fun x54 =>
 (zg x53.2).bind fun x55 =>
 (zaj 0 0 (x55.1)).bind fun x56 =>
 (zg x55.2).bind fun x57 =>
 (zaj 3 0 (x57.1)).bind fun x58 =>
 (zh x57.2).bind fun x59 =>
 (zai ((nth x42.2.t 6))).bind fun x60 =>
 (zg x60).bind fun x61 =>
 (asInt .i64 (x61.1)).bind fun x62 =>
 (zg x61.2).bind fun x63 =>
 (asInt .i64 (x63.1)).bind fun x64 =>
 (zh x63.2).bind fun x65 =>
 (zl ((nth x42.2.t 15))).bind fun x66 =>
 (asInt .i64 ((nth x42.2.t 16))).bind fun x67 =>
 (asInt .i64 ((nth x42.2.t 17))).bind fun x68 =>
 (zJ x42.2.h).bind fun x69 =>
 (zX x69.1).bind fun x70 =>
 (zg x70).bind fun x71 =>
 (zl (x71.1)).bind fun x72 =>
 (zh x71.2).bind fun x73 =>
 (zJ x69.2).bind fun x74 =>
 (zbU true true 2 x74.1).bind fun x75 =>
 (zJ x74.2).bind fun x76 =>
 (zX x76.1).bind fun x77 =>
 (zg x77).bind fun x78 =>
 (zbm 1 (x78.1)).bind fun x79 =>
 (zh x78.2).bind fun x80 =>
 (zJ x76.2).bind fun x81 =>
 (zX x81.1).bind fun x82 =>
 (zg x82).bind fun x83 =>
 (zcm (.func 115) (x83.1)).bind fun x84 =>
 (zh x84.1).bind fun x85 =>
 (zg x84.2).bind fun x86 =>
 (zaj 2 0 (x86.1)).bind fun x87 =>
 (zg x86.2).bind fun x88 =>
 (zaj 0 0 (x88.1)).bind fun x89 =>
 (zg x88.2).bind fun x90 =>
 (zaj 3 0 (x90.1)).bind fun x91 =>
 (zh x90.2).bind fun x92 =>
 (zh x83.2).bind fun x93 =>
 some (.agg [.int .i64 x62, .int .i64 x64], [.cells [.slice .any x72], .map true true 2 x75, .cells [.map 1], .cells [.fn (.func 115) [] [.ptr 2 0, .ptr 0 0, .ptr 3 0]]])) (
 none)
 | .ret =>
 none := by kernel_rfl
theorem e74 (C : CallT) (n0 : Int) : zO GZ LZ C (.func 74) [.int .i64 n0] [] =
 cond (n0 == 0) (
 some (.slice .nil [], [])) (
 some (.slice .any [[.int .i64 n0, .int .u8 0, .int .u8 0, .int .u8 0, .int .u8 0, .int .u8 0, .int .u8 0]], [])) := by kernel_rfl
theorem e80 (C : CallT) (n0 : Int) : zO GZ LZ C (.func 80) [.int .i64 n0] [] =
 cond (decide (n0 < 0)) (
 some (.slice .nil [], [])) (
 cond (decide (n0 ≥ 6)) (
 some (.slice .nil [], [])) (
 cond (decide (0 ≤ n0)) (
 cond (decide (n0.toNat < 6)) (
 cond (false || ((true && (Nat.beq (1 + (n0.toNat * 1)) 1)) || ((true && (Nat.beq (1 + (n0.toNat * 1)) 2)) || ((true && (Nat.beq (1 + (n0.toNat * 1)) 3)) || ((true && (Nat.beq (1 + (n0.toNat * 1)) 4)) || ((true && (Nat.beq (1 + (n0.toNat * 1)) 5)) || ((true && (Nat.beq (1 + (n0.toNat * 1)) 6)) || false))))))) (
 some (.slice .any [[.int .i64 65536, .int .u8 (cond (Nat.beq (1 + (n0.toNat * 1)) 1) 1 0), .int .u8 (cond (Nat.beq (1 + (n0.toNat * 1)) 2) 1 0), .int .u8 (cond (Nat.beq (1 + (n0.toNat * 1)) 3) 1 0), .int .u8 (cond (Nat.beq (1 + (n0.toNat * 1)) 4) 1 0), .int .u8 (cond (Nat.beq (1 + (n0.toNat * 1)) 5) 1 0), .int .u8 (cond (Nat.beq (1 + (n0.toNat * 1)) 6) 1 0)]], [])) (
 none)) (
 none)) (
 none))) := by kernel_rfl
def zcG (p0 : Int) (p1 : List (List V)) (p2 : Int) (p3 : Int) (p4 : Nat) (p5 : List (List V)) (p6 : Int) (p7 : Int) (p8 : Int) (p9 : Int) (p10 : List (List V)) : St := ⟨(sp 0 61 [(1, .int .i64 p0), (5, .ptr 0 0), (6, .slice .any p1), (7, .box [.int .i64 p2, .int .i64 p3]), (8, .arr 1 p4 7), (12, .slice .any p5), (13, .int .i64 p6), (14, .int .i64 p7)]), [.cells [.int .i64 p8, .int .i64 p9], .arr true 7 p10]⟩
def zkq (p0 : Int) (p1 : Int) (p2 : Int) (p3 : Nat) (p4 : List (List V)) (p5 : Int) (p6 : Int) (p7 : Int) (p8 : Int) (p9 : List (List V)) : St := ⟨(sp 0 61 [(1, .int .i64 p0), (5, .ptr 0 0), (6, .slice .nil []), (7, .box [.int .i64 p1, .int .i64 p2]), (8, .arr 1 p3 7), (12, .slice .any p4), (13, .int .i64 p5), (14, .int .i64 p6)]), [.cells [.int .i64 p7, .int .i64 p8], .arr true 7 p9]⟩
theorem zrP (C : CallT) (r0 : List (List V)) (n1 : Int) (n2 : Int) (n3 : Int) (n4 : Int) (n5 : Int) (n6 : Int) (n7 : Int) (n8 : Int) (n9 : Int) : zO GZ LZ C (.func 102) [.ptr 0 0, .int .i64 n3, .agg [.int .u8 n4, .int .u8 n5, .int .u8 n6, .int .u8 n7, .int .u8 n8, .int .u8 n9]] [.cells [.int .i64 n1, .int .i64 n2], .arr true 7 r0] =
 cond ((n4 == 0) && ((n5 == 0) && ((n6 == 0) && ((n7 == 0) && ((n8 == 0) && ((n9 == 0) && true)))))) (
 some (.tuple [], [.cells [.int .i64 (IntKind.wrap .i64 (n1 + n3)), .int .i64 (IntKind.wrap .i64 (n2 + n3))], .arr true 7 r0])) (
 (C.p (.func 111) [.agg [.int .u8 n4, .int .u8 n5, .int .u8 n6, .int .u8 n7, .int .u8 n8, .int .u8 n9]]).bind fun x0 =>
 (asBool (x0)).bind fun x1 =>
 cond x1 (
 some (.tuple [], [.cells [.int .i64 (IntKind.wrap .i64 (n1 - (if (IntKind.wrap .i64 (0 - n3)) > n3 then (IntKind.wrap .i64 (0 - n3)) else n3))), .int .i64 (IntKind.wrap .i64 (n2 + (if (IntKind.wrap .i64 (0 - n3)) > n3 then (IntKind.wrap .i64 (0 - n3)) else n3)))], .arr true 7 r0])) (
 some (.tuple [], [.cells [.int .i64 (IntKind.wrap .i64 (n1 + (if 0 < n3 then 0 else n3))), .int .i64 (IntKind.wrap .i64 (n2 + (if 0 > n3 then 0 else n3)))], .arr true 7 r0]))) := by kernel_rfl
theorem zqq (C : CallT) (r0 : List (List V)) (n1 : Int) (n2 : Int) (n3 : Int) (r4 : List (List V)) (n5 : Int) (n6 : Int) (r7 : List (List V)) (n8 : Int) (n9 : Int) : zp GZ LZ C 94 none 3 (zcG n3 r4 n5 n6 r0.length r7 n8 n9 n1 n2 r0) =
 cond (decide (n9 < n8)) (
 (zS r7 n9 7).bind fun x0 =>
 (zg x0).bind fun x1 =>
 (asInt .i64 (x1.1)).bind fun x2 =>
 (zg x1.2).bind fun x3 =>
 (asInt .u8 (x3.1)).bind fun x4 =>
 (zg x3.2).bind fun x5 =>
 (asInt .u8 (x5.1)).bind fun x6 =>
 (zg x5.2).bind fun x7 =>
 (asInt .u8 (x7.1)).bind fun x8 =>
 (zg x7.2).bind fun x9 =>
 (asInt .u8 (x9.1)).bind fun x10 =>
 (zg x9.2).bind fun x11 =>
 (asInt .u8 (x11.1)).bind fun x12 =>
 (zg x11.2).bind fun x13 =>
 (asInt .u8 (x13.1)).bind fun x14 =>
 (zh x13.2).bind fun x15 =>
 (C.p (.func 90) [.int .i64 x2]).bind fun x16 =>
 (asBool (x16)).bind fun x17 =>
 cond (!x17) (
 (C.p (.func 87) []).bind fun x32 =>
 (zi (x32)).bind fun x33 =>
 (zg x33).bind fun x34 =>
 (asInt .i64 (x34.1)).bind fun x35 =>
 (zg x34.2).bind fun x36 =>
 (asInt .i64 (x36.1)).bind fun x37 =>
 (zh x36.2).bind fun x38 =>
 some (.ret, (zkq n3 x35 x37 r0.length r7 n8 n9 n1 n2 r0))) (
 cond (x2 == 0) (
 some (.normal, (zcG n3 r4 n5 n6 r0.length r7 n8 (IntKind.wrap .i64 (n9 + 1)) n1 n2 r0))) (
 (C.p (.func 91) [.agg [.int .u8 x4, .int .u8 x6, .int .u8 x8, .int .u8 x10, .int .u8 x12, .int .u8 x14]]).bind fun x18 =>
 (asInt .i64 (x18)).bind fun x19 =>
 cond (decide (x19 ≤ (if 6 < n3 then 6 else n3))) (
 cond (decide (r0.length = r0.length)) (
 cond (decide (((r0.length + 1) * 16) ≤ zag)) (
 some (.normal, (zcG n3 r4 n5 n6 (r0.length + 1) r7 n8 (IntKind.wrap .i64 (n9 + 1)) n1 n2 (List.append r0 [[.int .i64 x2, .int .u8 x4, .int .u8 x6, .int .u8 x8, .int .u8 x10, .int .u8 x12, .int .u8 x14]])))) (
 none)) (
 none)) (
 (C.s (.func 102) [.ptr 0 0, .int .i64 x2, .agg [.int .u8 x4, .int .u8 x6, .int .u8 x8, .int .u8 x10, .int .u8 x12, .int .u8 x14]] [.cells [.int .i64 n1, .int .i64 n2], .arr true 7 r0]).bind fun x20 =>
 (zy (x20.1)).bind fun x21 =>
 (zh x21).bind fun x22 =>
 (zJ x20.2).bind fun x23 =>
 (zX x23.1).bind fun x24 =>
 (zg x24).bind fun x25 =>
 (asInt .i64 (x25.1)).bind fun x26 =>
 (zg x25.2).bind fun x27 =>
 (asInt .i64 (x27.1)).bind fun x28 =>
 (zh x27.2).bind fun x29 =>
 (zJ x23.2).bind fun x30 =>
 (zaU true 7 x30.1).bind fun x31 =>
 some (.normal, (zcG n3 r4 n5 n6 r0.length r7 n8 (IntKind.wrap .i64 (n9 + 1)) x26 x28 x31)))))) (
 some ((.exit 0), (zcG n3 r4 n5 n6 r0.length r7 n8 n9 n1 n2 r0))) := by kernel_rfl
theorem e94 (C : CallT) (r0 : List (List V)) (n1 : Int) (n2 : Int) (n3 : Int) : zO GZ LZ C (.func 94) [.slice .any r0, .int .i64 n1, .agg [.int .i64 n2, .int .i64 n3]] [] =
 (C.w (zp GZ LZ C 94 none 3) (zcG n1 [] 0 0 0 r0 ((r0.length : Nat) : Int) 0 n2 n3 [])).bind fun x0 =>
 match x0.1 with
 | .normal =>
 none
 | .exit x2 =>
 cond (Nat.beq x2 0) (
 (asInt .i64 ((nth x0.2.t 1))).bind fun x3 =>
 (zaj 0 0 ((nth x0.2.t 5))).bind fun x4 =>
 (zl ((nth x0.2.t 6))).bind fun x5 =>
 (zai ((nth x0.2.t 7))).bind fun x6 =>
 (zg x6).bind fun x7 =>
 (asInt .i64 (x7.1)).bind fun x8 =>
 (zg x7.2).bind fun x9 =>
 (asInt .i64 (x9.1)).bind fun x10 =>
 (zh x9.2).bind fun x11 =>
 (zcn 1 7 ((nth x0.2.t 8))).bind fun x12 =>
 (zl ((nth x0.2.t 12))).bind fun x13 =>
 (asInt .i64 ((nth x0.2.t 13))).bind fun x14 =>
 (asInt .i64 ((nth x0.2.t 14))).bind fun x15 =>
 (zJ x0.2.h).bind fun x16 =>
 (zX x16.1).bind fun x17 =>
 (zg x17).bind fun x18 =>
 (asInt .i64 (x18.1)).bind fun x19 =>
 (zg x18.2).bind fun x20 =>
 (asInt .i64 (x20.1)).bind fun x21 =>
 (zh x20.2).bind fun x22 =>
 (zJ x16.2).bind fun x23 =>
 (zaU true 7 x23.1).bind fun x24 =>
 (C.p (.func 75) [.int .i64 x19, .int .i64 x21]).bind fun x25 =>
 (zi (x25)).bind fun x26 =>
 (zg x26).bind fun x27 =>
 (asInt .i64 (x27.1)).bind fun x28 =>
 (zg x27.2).bind fun x29 =>
 (asInt .i64 (x29.1)).bind fun x30 =>
 (zh x29.2).bind fun x31 =>
 cond (decide (((x12 : Nat) : Int) ≤ 100)) (
 (C.p (.func 44) [.agg [.int .i64 x28, .int .i64 x30]]).bind fun x39 =>
 (asBool (x39)).bind fun x40 =>
 cond (!x40) (
 some (.tuple [.arr 1 x12 7, .agg [.int .i64 x28, .int .i64 x30]], [.cells [.int .i64 x19, .int .i64 x21], .arr true 7 x24])) (
 (C.p (.func 87) []).bind fun x41 =>
 (zi (x41)).bind fun x42 =>
 (zg x42).bind fun x43 =>
 (asInt .i64 (x43.1)).bind fun x44 =>
 (zg x43.2).bind fun x45 =>
 (asInt .i64 (x45.1)).bind fun x46 =>
 (zh x45.2).bind fun x47 =>
 some (.tuple [.slice .nil [], .agg [.int .i64 x44, .int .i64 x46]], [.cells [.int .i64 x19, .int .i64 x21], .arr true 7 x24]))) (
 (C.p (.func 87) []).bind fun x32 =>
 (zi (x32)).bind fun x33 =>
 (zg x33).bind fun x34 =>
 (asInt .i64 (x34.1)).bind fun x35 =>
 (zg x34.2).bind fun x36 =>
 (asInt .i64 (x36.1)).bind fun x37 =>
 (zh x36.2).bind fun x38 =>
 some (.tuple [.slice .nil [], .agg [.int .i64 x35, .int .i64 x37]], [.cells [.int .i64 x19, .int .i64 x21], .arr true 7 x24]))) (
 none)
 | .ret =>
 (asInt .i64 ((nth x0.2.t 1))).bind fun x48 =>
 (zaj 0 0 ((nth x0.2.t 5))).bind fun x49 =>
 (zl ((nth x0.2.t 6))).bind fun x50 =>
 (zai ((nth x0.2.t 7))).bind fun x51 =>
 (zg x51).bind fun x52 =>
 (asInt .i64 (x52.1)).bind fun x53 =>
 (zg x52.2).bind fun x54 =>
 (asInt .i64 (x54.1)).bind fun x55 =>
 (zh x54.2).bind fun x56 =>
 (zcn 1 7 ((nth x0.2.t 8))).bind fun x57 =>
 (zl ((nth x0.2.t 12))).bind fun x58 =>
 (asInt .i64 ((nth x0.2.t 13))).bind fun x59 =>
 (asInt .i64 ((nth x0.2.t 14))).bind fun x60 =>
 (zJ x0.2.h).bind fun x61 =>
 (zX x61.1).bind fun x62 =>
 (zg x62).bind fun x63 =>
 (asInt .i64 (x63.1)).bind fun x64 =>
 (zg x63.2).bind fun x65 =>
 (asInt .i64 (x65.1)).bind fun x66 =>
 (zh x65.2).bind fun x67 =>
 (zJ x61.2).bind fun x68 =>
 (zaU true 7 x68.1).bind fun x69 =>
 some (.tuple [.slice .any x50, .agg [.int .i64 x53, .int .i64 x55]], [.cells [.int .i64 x64, .int .i64 x66], .arr true 7 x69]) := by kernel_rfl
end Go.Ab
