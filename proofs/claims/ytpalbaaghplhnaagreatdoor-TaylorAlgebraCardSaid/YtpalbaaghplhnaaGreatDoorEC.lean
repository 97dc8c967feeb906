/- What one call of each function does, written out: by evaluation; conditions: none. -/
import Derived.KernelRfl
import Derived.Test.YtpalbaaghplhnaaGreatDoorT
set_option linter.unusedVariables false
set_option linter.unusedSimpArgs false
namespace Go.Ab
set_option maxHeartbeats 2000000
set_option maxRecDepth 100000
theorem e12 (C : CallT) (n0 : Int) (n1 : Int) : zO GZ LZ C (.func 12) [.agg [.int .i64 n0, .int .i64 n1]] [] =
 (C.p (.func 47) [.agg [.int .i64 n0, .int .i64 n1]]).bind fun x0 =>
 (asBool (x0)).bind fun x1 =>
 cond x1 (
 some (.agg [.int .i64 n0, .int .i64 n1], [])) (
 cond ((IntKind.wrap .i64 (((BitVec.ofInt (IntKind.bits .i64) n0 &&& BitVec.ofInt (IntKind.bits .i64) 31).toNat : Nat) : Int)) == 7) (
 (C.p (.func 48) []).bind fun x9 =>
 (zi (x9)).bind fun x10 =>
 (zg x10).bind fun x11 =>
 (asInt .i64 (x11.1)).bind fun x12 =>
 (zg x11.2).bind fun x13 =>
 (asInt .i64 (x13.1)).bind fun x14 =>
 (zh x13.2).bind fun x15 =>
 some (.agg [.int .i64 x12, .int .i64 x14], [])) (
 (C.p (.func 49) [.agg [.int .i64 n0, .int .i64 n1]]).bind fun x2 =>
 (zi (x2)).bind fun x3 =>
 (zg x3).bind fun x4 =>
 (asInt .i64 (x4.1)).bind fun x5 =>
 (zg x4.2).bind fun x6 =>
 (asInt .i64 (x6.1)).bind fun x7 =>
 (zh x6.2).bind fun x8 =>
 some (.agg [.int .i64 x5, .int .i64 x7], []))) := by kernel_rfl
theorem e38 (C : CallT) (n0 : Int) (n1 : Int) : zO GZ LZ C (.func 38) [.agg [.int .i64 n0, .int .i64 n1]] [] =
 cond (n0 == (-2147483648)) (
 some (.bool (n1 == 2147483648), [])) (
 some (.bool false, [])) := by kernel_rfl
theorem e49 (C : CallT) (n0 : Int) (n1 : Int) : zO GZ LZ C (.func 49) [.agg [.int .i64 n0, .int .i64 n1]] [] =
 some (.agg [.int .i64 (if (Int.tmod n1 16777216) < (Int.tmod n0 16777216) then (Int.tmod n1 16777216) else (Int.tmod n0 16777216)), .int .i64 (if (Int.tmod n1 16777216) > (Int.tmod n0 16777216) then (Int.tmod n1 16777216) else (Int.tmod n0 16777216))], []) := by kernel_rfl
theorem e78 (C : CallT) (n0 : Int) (n1 : Int) : zO GZ LZ C (.func 78) [.int .i64 n0, .int .i64 n1] [] =
 (C.p (.func 89) [.int .i64 n0]).bind fun x0 =>
 (asBool (x0)).bind fun x1 =>
 cond (!x1) (
 (C.p (.func 48) []).bind fun x11 =>
 (zi (x11)).bind fun x12 =>
 (zg x12).bind fun x13 =>
 (asInt .i64 (x13.1)).bind fun x14 =>
 (zg x13.2).bind fun x15 =>
 (asInt .i64 (x15.1)).bind fun x16 =>
 (zh x15.2).bind fun x17 =>
 some (.agg [.int .i64 x14, .int .i64 x16], [])) (
 (C.p (.func 89) [.int .i64 n1]).bind fun x2 =>
 (asBool (x2)).bind fun x3 =>
 cond (!x3) (
 (C.p (.func 48) []).bind fun x4 =>
 (zi (x4)).bind fun x5 =>
 (zg x5).bind fun x6 =>
 (asInt .i64 (x6.1)).bind fun x7 =>
 (zg x6.2).bind fun x8 =>
 (asInt .i64 (x8.1)).bind fun x9 =>
 (zh x8.2).bind fun x10 =>
 some (.agg [.int .i64 x7, .int .i64 x9], [])) (
 some (.agg [.int .i64 n0, .int .i64 n1], []))) := by kernel_rfl
theorem e58 (C : CallT) (n0 : Int) (n1 : Int) (n2 : Int) (n3 : Int) : zO GZ LZ C (.func 58) [.agg [.int .i64 n0, .int .i64 n1], .agg [.int .i64 n2, .int .i64 n3]] [] =
 (C.p (.func 38) [.agg [.int .i64 n0, .int .i64 n1]]).bind fun x0 =>
 (asBool (x0)).bind fun x1 =>
 cond x1 (
 (C.p (.func 48) []).bind fun x18 =>
 (zi (x18)).bind fun x19 =>
 (zg x19).bind fun x20 =>
 (asInt .i64 (x20.1)).bind fun x21 =>
 (zg x20.2).bind fun x22 =>
 (asInt .i64 (x22.1)).bind fun x23 =>
 (zh x22.2).bind fun x24 =>
 some (.agg [.int .i64 x21, .int .i64 x23], [])) (
 (C.p (.func 38) [.agg [.int .i64 n2, .int .i64 n3]]).bind fun x2 =>
 (asBool (x2)).bind fun x3 =>
 cond x3 (
 (C.p (.func 48) []).bind fun x11 =>
 (zi (x11)).bind fun x12 =>
 (zg x12).bind fun x13 =>
 (asInt .i64 (x13.1)).bind fun x14 =>
 (zg x13.2).bind fun x15 =>
 (asInt .i64 (x15.1)).bind fun x16 =>
 (zh x15.2).bind fun x17 =>
 some (.agg [.int .i64 x14, .int .i64 x16], [])) (
 (C.p (.func 78) [.int .i64 (IntKind.wrap .i64 (n0 + n2)), .int .i64 (IntKind.wrap .i64 (n1 + n3))]).bind fun x4 =>
 (zi (x4)).bind fun x5 =>
 (zg x5).bind fun x6 =>
 (asInt .i64 (x6.1)).bind fun x7 =>
 (zg x6.2).bind fun x8 =>
 (asInt .i64 (x8.1)).bind fun x9 =>
 (zh x8.2).bind fun x10 =>
 some (.agg [.int .i64 x7, .int .i64 x9], []))) := by kernel_rfl
theorem e89 (C : CallT) (n0 : Int) : zO GZ LZ C (.func 89) [.int .i64 n0] [] =
 cond (decide (n0 > (-2147483648))) (
 some (.bool (decide (n0 < 2147483648)), [])) (
 some (.bool false, [])) := by kernel_rfl
theorem e47 (C : CallT) (n0 : Int) (n1 : Int) : zO GZ LZ C (.func 47) [.agg [.int .i64 n0, .int .i64 n1]] [] =
 (C.p (.func 38) [.agg [.int .i64 n0, .int .i64 n1]]).bind fun x0 =>
 (asBool (x0)).bind fun x1 =>
 cond x1 (
 some (.bool true, [])) (
 (C.p (.func 89) [.int .i64 n0]).bind fun x2 =>
 (asBool (x2)).bind fun x3 =>
 cond x3 (
 (C.p (.func 89) [.int .i64 n1]).bind fun x4 =>
 (asBool (x4)).bind fun x5 =>
 cond x5 (
 some (.bool (decide (n0 ≤ n1)), [])) (
 some (.bool false, []))) (
 some (.bool false, []))) := by kernel_rfl
theorem e48 (C : CallT)  : zO GZ LZ C (.func 48) [] [] =
 some (.agg [.int .i64 (-2147483648), .int .i64 2147483648], []) := by kernel_rfl
theorem e103 (C : CallT) (n0 : Int) (n1 : Int) : zO GZ LZ C (.func 103) [.int .i64 n0, .int .i64 n1] [] =
 cond (n1 == 0) (
 none) (
 cond (n1 == 0) (
 none) (
 cond ((Int.tmod n0 n1) != 0) (
 cond (!((decide (n0 < 0)) == (decide (n1 < 0)))) (
 some (.int .i64 (IntKind.wrap .i64 ((IntKind.wrap .i64 (Int.tdiv n0 n1)) - 1)), [])) (
 some (.int .i64 (IntKind.wrap .i64 (Int.tdiv n0 n1)), []))) (
 some (.int .i64 (IntKind.wrap .i64 (Int.tdiv n0 n1)), [])))) := by kernel_rfl
theorem e86 (C : CallT) (n0 : Int) : zO GZ LZ C (.func 86) [.int .i64 n0] [] =
 (C.p (.func 78) [.int .i64 n0, .int .i64 n0]).bind fun x0 =>
 (zi (x0)).bind fun x1 =>
 (zg x1).bind fun x2 =>
 (asInt .i64 (x2.1)).bind fun x3 =>
 (zg x2.2).bind fun x4 =>
 (asInt .i64 (x4.1)).bind fun x5 =>
 (zh x4.2).bind fun x6 =>
 some (.agg [.int .i64 x3, .int .i64 x5], []) := by kernel_rfl
def zcp (p0 : Int) (p1 : Int) (p2 : List (List V)) (p3 : Int) (p4 : Int) (p5 : Int) : St := ⟨(sp 0 64 [(4, .box [.int .i64 p0, .int .i64 p1]), (5, .slice .any p2), (6, .int .i64 p3), (7, .int .i64 p4), (8, .int .i64 p5)]), []⟩
theorem zng (C : CallT) (n0 : Int) (n1 : Int) (r2 : List (List V)) (n3 : Int) (n4 : Int) (n5 : Int) : zp GZ LZ C 67 none 6 (zcp n0 n1 r2 n3 n4 n5) =
 cond (decide (n5 < 4)) (
 (zS r2 n5 1).bind fun x0 =>
 (zg x0).bind fun x1 =>
 (asInt .i64 (x1.1)).bind fun x2 =>
 (zh x1.2).bind fun x3 =>
 (zS r2 n5 1).bind fun x4 =>
 (zg x4).bind fun x5 =>
 (asInt .i64 (x5.1)).bind fun x6 =>
 (zh x5.2).bind fun x7 =>
 some (.normal, (zcp n0 n1 r2 (if x2 < n3 then x2 else n3) (if x6 > n4 then x6 else n4) (IntKind.wrap .i64 (n5 + 1))))) (
 some ((.exit 0), (zcp n0 n1 r2 n3 n4 n5))) := by kernel_rfl
theorem e67 (C : CallT) (n0 : Int) (n1 : Int) (n2 : Int) (n3 : Int) : zO GZ LZ C (.func 67) [.agg [.int .i64 n0, .int .i64 n1], .agg [.int .i64 n2, .int .i64 n3]] [] =
 (C.p (.func 38) [.agg [.int .i64 n0, .int .i64 n1]]).bind fun x0 =>
 (asBool (x0)).bind fun x1 =>
 cond x1 (
 (C.p (.func 48) []).bind fun x35 =>
 (zi (x35)).bind fun x36 =>
 (zg x36).bind fun x37 =>
 (asInt .i64 (x37.1)).bind fun x38 =>
 (zg x37.2).bind fun x39 =>
 (asInt .i64 (x39.1)).bind fun x40 =>
 (zh x39.2).bind fun x41 =>
 some (.agg [.int .i64 x38, .int .i64 x40], [])) (
 (C.p (.func 38) [.agg [.int .i64 n2, .int .i64 n3]]).bind fun x2 =>
 (asBool (x2)).bind fun x3 =>
 cond x3 (
 (C.p (.func 48) []).bind fun x28 =>
 (zi (x28)).bind fun x29 =>
 (zg x29).bind fun x30 =>
 (asInt .i64 (x30.1)).bind fun x31 =>
 (zg x30.2).bind fun x32 =>
 (asInt .i64 (x32.1)).bind fun x33 =>
 (zh x32.2).bind fun x34 =>
 some (.agg [.int .i64 x31, .int .i64 x33], [])) (
 (C.w (zp GZ LZ C 67 none 6) (zcp 0 0 [[.int .i64 (IntKind.wrap .i64 (n0 * n2))], [.int .i64 (IntKind.wrap .i64 (n0 * n3))], [.int .i64 (IntKind.wrap .i64 (n1 * n2))], [.int .i64 (IntKind.wrap .i64 (n1 * n3))]] (IntKind.wrap .i64 (n0 * n2)) (IntKind.wrap .i64 (n0 * n2)) 1)).bind fun x4 =>
 match x4.1 with
 | .normal =>
 none
 | .exit x6 =>
 cond (Nat.beq x6 0) (
 (zai ((nth x4.2.t 4))).bind fun x7 =>
 (zg x7).bind fun x8 =>
 (asInt .i64 (x8.1)).bind fun x9 =>
 (zg x8.2).bind fun x10 =>
 (asInt .i64 (x10.1)).bind fun x11 =>
 (zh x10.2).bind fun x12 =>
 (zl ((nth x4.2.t 5))).bind fun x13 =>
 (asInt .i64 ((nth x4.2.t 6))).bind fun x14 =>
 (asInt .i64 ((nth x4.2.t 7))).bind fun x15 =>
 (asInt .i64 ((nth x4.2.t 8))).bind fun x16 =>
 (C.p (.func 103) [.int .i64 x14, .int .i64 65536]).bind fun x17 =>
 (asInt .i64 (x17)).bind fun x18 =>
 (C.p (.func 105) [.int .i64 x15, .int .i64 65536]).bind fun x19 =>
 (asInt .i64 (x19)).bind fun x20 =>
 (C.p (.func 78) [.int .i64 x18, .int .i64 x20]).bind fun x21 =>
 (zi (x21)).bind fun x22 =>
 (zg x22).bind fun x23 =>
 (asInt .i64 (x23.1)).bind fun x24 =>
 (zg x23.2).bind fun x25 =>
 (asInt .i64 (x25.1)).bind fun x26 =>
 (zh x25.2).bind fun x27 =>
 some (.agg [.int .i64 x24, .int .i64 x26], [])) (
 none)
 | .ret =>
 none)) := by kernel_rfl
theorem e105 (C : CallT) (n0 : Int) (n1 : Int) : zO GZ LZ C (.func 105) [.int .i64 n0, .int .i64 n1] [] =
 (C.p (.func 103) [.int .i64 (IntKind.wrap .i64 (0 - n0)), .int .i64 n1]).bind fun x0 =>
 (asInt .i64 (x0)).bind fun x1 =>
 some (.int .i64 (IntKind.wrap .i64 (0 - x1)), []) := by kernel_rfl
theorem e117 (C : CallT) (n0 : Int) (n1 : Int) : zO GZ LZ C (.func 117) [.agg [.int .i64 n0, .int .i64 n1]] [] =
 (C.p (.func 38) [.agg [.int .i64 n0, .int .i64 n1]]).bind fun x0 =>
 (asBool (x0)).bind fun x1 =>
 cond x1 (
 (C.p (.func 48) []).bind fun x35 =>
 (zi (x35)).bind fun x36 =>
 (zg x36).bind fun x37 =>
 (asInt .i64 (x37.1)).bind fun x38 =>
 (zg x37.2).bind fun x39 =>
 (asInt .i64 (x39.1)).bind fun x40 =>
 (zh x39.2).bind fun x41 =>
 some (.agg [.int .i64 x38, .int .i64 x40], [])) (
 cond (decide (n0 ≤ 0)) (
 cond (decide (n1 ≥ 0)) (
 (C.p (.func 103) [.int .i64 0, .int .i64 65536]).bind fun x24 =>
 (asInt .i64 (x24)).bind fun x25 =>
 (C.p (.func 105) [.int .i64 (if (IntKind.wrap .i64 (n1 * n1)) > (IntKind.wrap .i64 (n0 * n0)) then (IntKind.wrap .i64 (n1 * n1)) else (IntKind.wrap .i64 (n0 * n0))), .int .i64 65536]).bind fun x26 =>
 (asInt .i64 (x26)).bind fun x27 =>
 (C.p (.func 78) [.int .i64 x25, .int .i64 x27]).bind fun x28 =>
 (zi (x28)).bind fun x29 =>
 (zg x29).bind fun x30 =>
 (asInt .i64 (x30.1)).bind fun x31 =>
 (zg x30.2).bind fun x32 =>
 (asInt .i64 (x32.1)).bind fun x33 =>
 (zh x32.2).bind fun x34 =>
 some (.agg [.int .i64 x31, .int .i64 x33], [])) (
 (C.p (.func 103) [.int .i64 (if (IntKind.wrap .i64 (n1 * n1)) < (IntKind.wrap .i64 (n0 * n0)) then (IntKind.wrap .i64 (n1 * n1)) else (IntKind.wrap .i64 (n0 * n0))), .int .i64 65536]).bind fun x13 =>
 (asInt .i64 (x13)).bind fun x14 =>
 (C.p (.func 105) [.int .i64 (if (IntKind.wrap .i64 (n1 * n1)) > (IntKind.wrap .i64 (n0 * n0)) then (IntKind.wrap .i64 (n1 * n1)) else (IntKind.wrap .i64 (n0 * n0))), .int .i64 65536]).bind fun x15 =>
 (asInt .i64 (x15)).bind fun x16 =>
 (C.p (.func 78) [.int .i64 x14, .int .i64 x16]).bind fun x17 =>
 (zi (x17)).bind fun x18 =>
 (zg x18).bind fun x19 =>
 (asInt .i64 (x19.1)).bind fun x20 =>
 (zg x19.2).bind fun x21 =>
 (asInt .i64 (x21.1)).bind fun x22 =>
 (zh x21.2).bind fun x23 =>
 some (.agg [.int .i64 x20, .int .i64 x22], []))) (
 (C.p (.func 103) [.int .i64 (if (IntKind.wrap .i64 (n1 * n1)) < (IntKind.wrap .i64 (n0 * n0)) then (IntKind.wrap .i64 (n1 * n1)) else (IntKind.wrap .i64 (n0 * n0))), .int .i64 65536]).bind fun x2 =>
 (asInt .i64 (x2)).bind fun x3 =>
 (C.p (.func 105) [.int .i64 (if (IntKind.wrap .i64 (n1 * n1)) > (IntKind.wrap .i64 (n0 * n0)) then (IntKind.wrap .i64 (n1 * n1)) else (IntKind.wrap .i64 (n0 * n0))), .int .i64 65536]).bind fun x4 =>
 (asInt .i64 (x4)).bind fun x5 =>
 (C.p (.func 78) [.int .i64 x3, .int .i64 x5]).bind fun x6 =>
 (zi (x6)).bind fun x7 =>
 (zg x7).bind fun x8 =>
 (asInt .i64 (x8.1)).bind fun x9 =>
 (zg x8.2).bind fun x10 =>
 (asInt .i64 (x10.1)).bind fun x11 =>
 (zh x10.2).bind fun x12 =>
 some (.agg [.int .i64 x9, .int .i64 x11], []))) := by kernel_rfl
def zdC (p0 : List (List V)) (p1 : Bool) (p2 : Int) : St := ⟨(sp 0 56 [(0, .slice .any p0), (2, .bool p1), (3, .int .i64 p2)]), []⟩
theorem e52_2 (C : CallT) (r0 : List (List V)) (b1 : Bool) (n2 : Int) : zp GZ LZ C 52 none 2 (zdC r0 b1 n2) =
 cond (decide (n2 < ((r0.length : Nat) : Int))) (
 (zS r0 n2 7).bind fun x0 =>
 (zg x0).bind fun x1 =>
 (asInt .i64 (x1.1)).bind fun x2 =>
 (zg x1.2).bind fun x3 =>
 (asInt .u8 (x3.1)).bind fun x4 =>
 (zg x3.2).bind fun x5 =>
 (asInt .u8 (x5.1)).bind fun x6 =>
 (zg x5.2).bind fun x7 =>
 (asInt .u8 (x7.1)).bind fun x8 =>
 (zg x7.2).bind fun x9 =>
 (asInt .u8 (x9.1)).bind fun x10 =>
 (zg x9.2).bind fun x11 =>
 (asInt .u8 (x11.1)).bind fun x12 =>
 (zg x11.2).bind fun x13 =>
 (asInt .u8 (x13.1)).bind fun x14 =>
 (zh x13.2).bind fun x15 =>
 (C.p (.func 89) [.int .i64 x2]).bind fun x16 =>
 (asBool (x16)).bind fun x17 =>
 cond (!x17) (
 some (.ret, (zdC r0 false n2))) (
 (zS r0 n2 7).bind fun x18 =>
 (zg x18).bind fun x19 =>
 (asInt .i64 (x19.1)).bind fun x20 =>
 (zg x19.2).bind fun x21 =>
 (asInt .u8 (x21.1)).bind fun x22 =>
 (zg x21.2).bind fun x23 =>
 (asInt .u8 (x23.1)).bind fun x24 =>
 (zg x23.2).bind fun x25 =>
 (asInt .u8 (x25.1)).bind fun x26 =>
 (zg x25.2).bind fun x27 =>
 (asInt .u8 (x27.1)).bind fun x28 =>
 (zg x27.2).bind fun x29 =>
 (asInt .u8 (x29.1)).bind fun x30 =>
 (zg x29.2).bind fun x31 =>
 (asInt .u8 (x31.1)).bind fun x32 =>
 (zh x31.2).bind fun x33 =>
 cond (x20 == 0) (
 some (.ret, (zdC r0 false n2))) (
 (zS r0 n2 7).bind fun x34 =>
 (zg x34).bind fun x35 =>
 (asInt .i64 (x35.1)).bind fun x36 =>
 (zg x35.2).bind fun x37 =>
 (asInt .u8 (x37.1)).bind fun x38 =>
 (zg x37.2).bind fun x39 =>
 (asInt .u8 (x39.1)).bind fun x40 =>
 (zg x39.2).bind fun x41 =>
 (asInt .u8 (x41.1)).bind fun x42 =>
 (zg x41.2).bind fun x43 =>
 (asInt .u8 (x43.1)).bind fun x44 =>
 (zg x43.2).bind fun x45 =>
 (asInt .u8 (x45.1)).bind fun x46 =>
 (zg x45.2).bind fun x47 =>
 (asInt .u8 (x47.1)).bind fun x48 =>
 (zh x47.2).bind fun x49 =>
 (C.p (.func 88) [.agg [.int .u8 x38, .int .u8 x40, .int .u8 x42, .int .u8 x44, .int .u8 x46, .int .u8 x48]]).bind fun x50 =>
 (asInt .i64 (x50)).bind fun x51 =>
 cond (decide (x51 > 6)) (
 some (.ret, (zdC r0 false n2))) (
 cond (decide (n2 > 0)) (
 (zS r0 (IntKind.wrap .i64 (n2 - 1)) 7).bind fun x52 =>
 (zg x52).bind fun x53 =>
 (asInt .i64 (x53.1)).bind fun x54 =>
 (zg x53.2).bind fun x55 =>
 (asInt .u8 (x55.1)).bind fun x56 =>
 (zg x55.2).bind fun x57 =>
 (asInt .u8 (x57.1)).bind fun x58 =>
 (zg x57.2).bind fun x59 =>
 (asInt .u8 (x59.1)).bind fun x60 =>
 (zg x59.2).bind fun x61 =>
 (asInt .u8 (x61.1)).bind fun x62 =>
 (zg x61.2).bind fun x63 =>
 (asInt .u8 (x63.1)).bind fun x64 =>
 (zg x63.2).bind fun x65 =>
 (asInt .u8 (x65.1)).bind fun x66 =>
 (zh x65.2).bind fun x67 =>
 (zS r0 n2 7).bind fun x68 =>
 (zg x68).bind fun x69 =>
 (asInt .i64 (x69.1)).bind fun x70 =>
 (zg x69.2).bind fun x71 =>
 (asInt .u8 (x71.1)).bind fun x72 =>
 (zg x71.2).bind fun x73 =>
 (asInt .u8 (x73.1)).bind fun x74 =>
 (zg x73.2).bind fun x75 =>
 (asInt .u8 (x75.1)).bind fun x76 =>
 (zg x75.2).bind fun x77 =>
 (asInt .u8 (x77.1)).bind fun x78 =>
 (zg x77.2).bind fun x79 =>
 (asInt .u8 (x79.1)).bind fun x80 =>
 (zg x79.2).bind fun x81 =>
 (asInt .u8 (x81.1)).bind fun x82 =>
 (zh x81.2).bind fun x83 =>
 (C.p (.func 93) [.agg [.int .u8 x56, .int .u8 x58, .int .u8 x60, .int .u8 x62, .int .u8 x64, .int .u8 x66], .agg [.int .u8 x72, .int .u8 x74, .int .u8 x76, .int .u8 x78, .int .u8 x80, .int .u8 x82]]).bind fun x84 =>
 (asInt .i64 (x84)).bind fun x85 =>
 cond (decide (x85 ≥ 0)) (
 some (.ret, (zdC r0 false n2))) (
 some (.normal, (zdC r0 b1 (IntKind.wrap .i64 (n2 + 1)))))) (
 some (.normal, (zdC r0 b1 (IntKind.wrap .i64 (n2 + 1))))))))) (
 some ((.exit 0), (zdC r0 b1 n2))) := by kernel_rfl
theorem e52 (C : CallT) (r0 : List (List V)) : zO GZ LZ C (.func 52) [.slice .any r0] [] =
 (C.w (zp GZ LZ C 52 none 2) (zdC r0 false 0)).bind fun x0 =>
 match x0.1 with
 | .normal =>
 none
 | .exit x2 =>
 cond (Nat.beq x2 0) (
 (zl ((nth x0.2.t 0))).bind fun x3 =>
 (asBool ((nth x0.2.t 2))).bind fun x4 =>
 (asInt .i64 ((nth x0.2.t 3))).bind fun x5 =>
 some (.bool (decide (((x3.length : Nat) : Int) ≤ 100)), [])) (
 none)
 | .ret =>
 (zl ((nth x0.2.t 0))).bind fun x6 =>
 (asBool ((nth x0.2.t 2))).bind fun x7 =>
 (asInt .i64 ((nth x0.2.t 3))).bind fun x8 =>
 some (.bool x7, []) := by kernel_rfl
def zf4 (p0 : List (List V)) (p1 : Int) (p2 : Int) (p3 : List (List V)) (p4 : Int) : St := ⟨(sp 0 30 [(1, .slice .any p0), (5, .box [.int .i64 p1, .int .i64 p2]), (6, .slice .any p3), (7, .int .i64 p4)]), []⟩
theorem e56_3 (C : CallT) (r0 : List (List V)) (n1 : Int) (n2 : Int) (r3 : List (List V)) (n4 : Int) : zp GZ LZ C 56 none 3 (zf4 r0 n1 n2 r3 n4) =
 cond (decide (n4 < ((r0.length : Nat) : Int))) (
 (zS r0 n4 7).bind fun x0 =>
 (zg x0).bind fun x1 =>
 (asInt .i64 (x1.1)).bind fun x2 =>
 (zg x1.2).bind fun x3 =>
 (asInt .u8 (x3.1)).bind fun x4 =>
 (zg x3.2).bind fun x5 =>
 (asInt .u8 (x5.1)).bind fun x6 =>
 (zg x5.2).bind fun x7 =>
 (asInt .u8 (x7.1)).bind fun x8 =>
 (zg x7.2).bind fun x9 =>
 (asInt .u8 (x9.1)).bind fun x10 =>
 (zg x9.2).bind fun x11 =>
 (asInt .u8 (x11.1)).bind fun x12 =>
 (zg x11.2).bind fun x13 =>
 (asInt .u8 (x13.1)).bind fun x14 =>
 (zh x13.2).bind fun x15 =>
 (C.p (.func 95) [.slice .any r3, .agg [.int .i64 x2, .int .u8 x4, .int .u8 x6, .int .u8 x8, .int .u8 x10, .int .u8 x12, .int .u8 x14]]).bind fun x16 =>
 (zl (x16)).bind fun x17 =>
 some (.normal, (zf4 r0 n1 n2 x17 (IntKind.wrap .i64 (n4 + 1))))) (
 some ((.exit 0), (zf4 r0 n1 n2 r3 n4))) := by kernel_rfl
theorem e56 (C : CallT) (r0 : List (List V)) (r1 : List (List V)) : zO GZ LZ C (.func 56) [.slice .any r0, .slice .any r1] [] =
 (C.w (zp GZ LZ C 56 none 3) (zf4 r1 0 0 r0 0)).bind fun x0 =>
 match x0.1 with
 | .normal =>
 none
 | .exit x2 =>
 cond (Nat.beq x2 0) (
 (zl ((nth x0.2.t 1))).bind fun x3 =>
 (zai ((nth x0.2.t 5))).bind fun x4 =>
 (zg x4).bind fun x5 =>
 (asInt .i64 (x5.1)).bind fun x6 =>
 (zg x5.2).bind fun x7 =>
 (asInt .i64 (x7.1)).bind fun x8 =>
 (zh x7.2).bind fun x9 =>
 (zl ((nth x0.2.t 6))).bind fun x10 =>
 (asInt .i64 ((nth x0.2.t 7))).bind fun x11 =>
 (C.p (.func 96) [.slice .any x10, .int .i64 6, .int .i64 0, .int .i64 0]).bind fun x12 =>
 (zy (x12)).bind fun x13 =>
 (zg x13).bind fun x14 =>
 (zl (x14.1)).bind fun x15 =>
 (zg x14.2).bind fun x16 =>
 (zi (x16.1)).bind fun x17 =>
 (zg x17).bind fun x18 =>
 (asInt .i64 (x18.1)).bind fun x19 =>
 (zg x18.2).bind fun x20 =>
 (asInt .i64 (x20.1)).bind fun x21 =>
 (zh x20.2).bind fun x22 =>
 (zh x16.2).bind fun x23 =>
 some (.tuple [.slice .any x15, .agg [.int .i64 x19, .int .i64 x21]], [])) (
 none)
 | .ret =>
 none := by kernel_rfl
def zjt (p0 : List (List V)) (p1 : List (List V)) (p2 : Int) (p3 : Int) (p4 : Int) (p5 : List (List V)) (p6 : Int) (p7 : Int) (p8 : Int) : St := ⟨(sp 0 107 [(0, .slice .any p0), (1, .slice .any p1), (2, .int .i64 p2), (7, .box [.int .i64 p3, .int .i64 p4]), (8, .slice .any p5), (9, .int .i64 p6), (10, .int .i64 p7), (11, .int .i64 p8)]), []⟩
def zhX (p0 : List (List V)) (p1 : List (List V)) (p2 : Int) (p3 : Int) (p4 : Int) (p5 : List (List V)) (p6 : Int) (p7 : Int) (p8 : Int) (p9 : Int) : St := ⟨(sp 0 107 [(0, .slice .any p0), (1, .slice .any p1), (2, .int .i64 p2), (7, .box [.int .i64 p3, .int .i64 p4]), (8, .slice .any p5), (9, .int .i64 p6), (10, .int .i64 p7), (11, .int .i64 p8), (12, .int .i64 p9)]), []⟩
def zhp (p0 : List (List V)) (p1 : List (List V)) (p2 : Int) (p3 : Int) (p4 : Int) (p5 : List (List V)) (p6 : Int) (p7 : Int) (p8 : Int) (p9 : Int) (p10 : Int) (p11 : Int) (p12 : Int) (p13 : Int) (p14 : Int) (p15 : Int) (p16 : Int) (p17 : Int) : St := ⟨(sp 0 107 [(0, .slice .any p0), (1, .slice .any p1), (2, .int .i64 p2), (7, .box [.int .i64 p3, .int .i64 p4]), (8, .slice .any p5), (9, .int .i64 p6), (10, .int .i64 p7), (11, .int .i64 p8), (12, .int .i64 p9), (13, .box [.int .i64 p10, .int .u8 p11, .int .u8 p12, .int .u8 p13, .int .u8 p14, .int .u8 p15, .int .u8 p16]), (14, .int .i64 p17)]), []⟩
theorem zgE (C : CallT) (r0 : List (List V)) (r1 : List (List V)) (n2 : Int) (n3 : Int) (n4 : Int) (r5 : List (List V)) (n6 : Int) (n7 : Int) (n8 : Int) (n9 : Int) (n10 : Int) (n11 : Int) (n12 : Int) (n13 : Int) (n14 : Int) (n15 : Int) (n16 : Int) (n17 : Int) : zp GZ LZ C 66 none 10 (zhp r0 r1 n2 n3 n4 r5 n6 n7 n8 n9 n10 n11 n12 n13 n14 n15 n16 n17) =
 cond (decide (n17 < 6)) (
 (zS r0 n8 7).bind fun x0 =>
 (zg x0).bind fun x1 =>
 (asInt .i64 (x1.1)).bind fun x2 =>
 (zg x1.2).bind fun x3 =>
 (asInt .u8 (x3.1)).bind fun x4 =>
 (zg x3.2).bind fun x5 =>
 (asInt .u8 (x5.1)).bind fun x6 =>
 (zg x5.2).bind fun x7 =>
 (asInt .u8 (x7.1)).bind fun x8 =>
 (zg x7.2).bind fun x9 =>
 (asInt .u8 (x9.1)).bind fun x10 =>
 (zg x9.2).bind fun x11 =>
 (asInt .u8 (x11.1)).bind fun x12 =>
 (zg x11.2).bind fun x13 =>
 (asInt .u8 (x13.1)).bind fun x14 =>
 (zh x13.2).bind fun x15 =>
 cond (decide (0 ≤ n17)) (
 cond (decide (n17.toNat < 6)) (
 cond (false || ((true && (Nat.beq (1 + (n17.toNat * 1)) 1)) || ((true && (Nat.beq (1 + (n17.toNat * 1)) 2)) || ((true && (Nat.beq (1 + (n17.toNat * 1)) 3)) || ((true && (Nat.beq (1 + (n17.toNat * 1)) 4)) || ((true && (Nat.beq (1 + (n17.toNat * 1)) 5)) || ((true && (Nat.beq (1 + (n17.toNat * 1)) 6)) || false))))))) (
 (za5 [x2, x4, x6, x8, x10, x12, x14] (1 + (n17.toNat * 1))).bind fun x16 =>
 (zS r1 n9 7).bind fun x17 =>
 (zg x17).bind fun x18 =>
 (asInt .i64 (x18.1)).bind fun x19 =>
 (zg x18.2).bind fun x20 =>
 (asInt .u8 (x20.1)).bind fun x21 =>
 (zg x20.2).bind fun x22 =>
 (asInt .u8 (x22.1)).bind fun x23 =>
 (zg x22.2).bind fun x24 =>
 (asInt .u8 (x24.1)).bind fun x25 =>
 (zg x24.2).bind fun x26 =>
 (asInt .u8 (x26.1)).bind fun x27 =>
 (zg x26.2).bind fun x28 =>
 (asInt .u8 (x28.1)).bind fun x29 =>
 (zg x28.2).bind fun x30 =>
 (asInt .u8 (x30.1)).bind fun x31 =>
 (zh x30.2).bind fun x32 =>
 cond (decide (0 ≤ n17)) (
 cond (decide (n17.toNat < 6)) (
 cond (false || ((true && (Nat.beq (1 + (n17.toNat * 1)) 1)) || ((true && (Nat.beq (1 + (n17.toNat * 1)) 2)) || ((true && (Nat.beq (1 + (n17.toNat * 1)) 3)) || ((true && (Nat.beq (1 + (n17.toNat * 1)) 4)) || ((true && (Nat.beq (1 + (n17.toNat * 1)) 5)) || ((true && (Nat.beq (1 + (n17.toNat * 1)) 6)) || false))))))) (
 (za5 [x19, x21, x23, x25, x27, x29, x31] (1 + (n17.toNat * 1))).bind fun x33 =>
 cond (decide (0 ≤ n17)) (
 cond (decide (n17.toNat < 6)) (
 cond (false || ((true && (Nat.beq (1 + (n17.toNat * 1)) 1)) || ((true && (Nat.beq (1 + (n17.toNat * 1)) 2)) || ((true && (Nat.beq (1 + (n17.toNat * 1)) 3)) || ((true && (Nat.beq (1 + (n17.toNat * 1)) 4)) || ((true && (Nat.beq (1 + (n17.toNat * 1)) 5)) || ((true && (Nat.beq (1 + (n17.toNat * 1)) 6)) || false))))))) (
 some (.normal, (zhp r0 r1 n2 n3 n4 r5 n6 n7 n8 n9 n10 (cond (Nat.beq (1 + (n17.toNat * 1)) 1) (IntKind.wrap .u8 (x16 + x33)) n11) (cond (Nat.beq (1 + (n17.toNat * 1)) 2) (IntKind.wrap .u8 (x16 + x33)) n12) (cond (Nat.beq (1 + (n17.toNat * 1)) 3) (IntKind.wrap .u8 (x16 + x33)) n13) (cond (Nat.beq (1 + (n17.toNat * 1)) 4) (IntKind.wrap .u8 (x16 + x33)) n14) (cond (Nat.beq (1 + (n17.toNat * 1)) 5) (IntKind.wrap .u8 (x16 + x33)) n15) (cond (Nat.beq (1 + (n17.toNat * 1)) 6) (IntKind.wrap .u8 (x16 + x33)) n16) (IntKind.wrap .i64 (n17 + 1))))) (
 none)) (
 none)) (
 none)) (
 none)) (
 none)) (
 none)) (
 none)) (
 none)) (
 none)) (
 some ((.exit 4), (zhp r0 r1 n2 n3 n4 r5 n6 n7 n8 n9 n10 n11 n12 n13 n14 n15 n16 n17))) := by kernel_rfl
theorem e66_6 (C : CallT) (r0 : List (List V)) (r1 : List (List V)) (n2 : Int) (n3 : Int) (n4 : Int) (r5 : List (List V)) (n6 : Int) (n7 : Int) (n8 : Int) (n9 : Int) : zp GZ LZ C 66 none 6 (zhX r0 r1 n2 n3 n4 r5 n6 n7 n8 n9) =
 cond (decide (n9 < ((r1.length : Nat) : Int))) (
 (zS r0 n8 7).bind fun x0 =>
 (zg x0).bind fun x1 =>
 (asInt .i64 (x1.1)).bind fun x2 =>
 (zg x1.2).bind fun x3 =>
 (asInt .u8 (x3.1)).bind fun x4 =>
 (zg x3.2).bind fun x5 =>
 (asInt .u8 (x5.1)).bind fun x6 =>
 (zg x5.2).bind fun x7 =>
 (asInt .u8 (x7.1)).bind fun x8 =>
 (zg x7.2).bind fun x9 =>
 (asInt .u8 (x9.1)).bind fun x10 =>
 (zg x9.2).bind fun x11 =>
 (asInt .u8 (x11.1)).bind fun x12 =>
 (zg x11.2).bind fun x13 =>
 (asInt .u8 (x13.1)).bind fun x14 =>
 (zh x13.2).bind fun x15 =>
 (zS r1 n9 7).bind fun x16 =>
 (zg x16).bind fun x17 =>
 (asInt .i64 (x17.1)).bind fun x18 =>
 (zg x17.2).bind fun x19 =>
 (asInt .u8 (x19.1)).bind fun x20 =>
 (zg x19.2).bind fun x21 =>
 (asInt .u8 (x21.1)).bind fun x22 =>
 (zg x21.2).bind fun x23 =>
 (asInt .u8 (x23.1)).bind fun x24 =>
 (zg x23.2).bind fun x25 =>
 (asInt .u8 (x25.1)).bind fun x26 =>
 (zg x25.2).bind fun x27 =>
 (asInt .u8 (x27.1)).bind fun x28 =>
 (zg x27.2).bind fun x29 =>
 (asInt .u8 (x29.1)).bind fun x30 =>
 (zh x29.2).bind fun x31 =>
 (C.p (.func 103) [.int .i64 (IntKind.wrap .i64 (x2 * x18)), .int .i64 65536]).bind fun x32 =>
 (asInt .i64 (x32)).bind fun x33 =>
 (C.w (zp GZ LZ C 66 none 10) (zhp r0 r1 n2 n3 n4 r5 n6 n7 n8 n9 x33 0 0 0 0 0 0 0)).bind fun x34 =>
 match x34.1 with
 | .normal =>
 none
 | .exit x36 =>
 cond (Nat.beq x36 4) (
 (zl ((nth x34.2.t 0))).bind fun x37 =>
 (zl ((nth x34.2.t 1))).bind fun x38 =>
 (asInt .i64 ((nth x34.2.t 2))).bind fun x39 =>
 (zai ((nth x34.2.t 7))).bind fun x40 =>
 (zg x40).bind fun x41 =>
 (asInt .i64 (x41.1)).bind fun x42 =>
 (zg x41.2).bind fun x43 =>
 (asInt .i64 (x43.1)).bind fun x44 =>
 (zh x43.2).bind fun x45 =>
 (zl ((nth x34.2.t 8))).bind fun x46 =>
 (asInt .i64 ((nth x34.2.t 9))).bind fun x47 =>
 (asInt .i64 ((nth x34.2.t 10))).bind fun x48 =>
 (asInt .i64 ((nth x34.2.t 11))).bind fun x49 =>
 (asInt .i64 ((nth x34.2.t 12))).bind fun x50 =>
 (zai ((nth x34.2.t 13))).bind fun x51 =>
 (zg x51).bind fun x52 =>
 (asInt .i64 (x52.1)).bind fun x53 =>
 (zg x52.2).bind fun x54 =>
 (asInt .u8 (x54.1)).bind fun x55 =>
 (zg x54.2).bind fun x56 =>
 (asInt .u8 (x56.1)).bind fun x57 =>
 (zg x56.2).bind fun x58 =>
 (asInt .u8 (x58.1)).bind fun x59 =>
 (zg x58.2).bind fun x60 =>
 (asInt .u8 (x60.1)).bind fun x61 =>
 (zg x60.2).bind fun x62 =>
 (asInt .u8 (x62.1)).bind fun x63 =>
 (zg x62.2).bind fun x64 =>
 (asInt .u8 (x64.1)).bind fun x65 =>
 (zh x64.2).bind fun x66 =>
 (asInt .i64 ((nth x34.2.t 14))).bind fun x67 =>
 (zS x37 x49 7).bind fun x68 =>
 (zg x68).bind fun x69 =>
 (asInt .i64 (x69.1)).bind fun x70 =>
 (zg x69.2).bind fun x71 =>
 (asInt .u8 (x71.1)).bind fun x72 =>
 (zg x71.2).bind fun x73 =>
 (asInt .u8 (x73.1)).bind fun x74 =>
 (zg x73.2).bind fun x75 =>
 (asInt .u8 (x75.1)).bind fun x76 =>
 (zg x75.2).bind fun x77 =>
 (asInt .u8 (x77.1)).bind fun x78 =>
 (zg x77.2).bind fun x79 =>
 (asInt .u8 (x79.1)).bind fun x80 =>
 (zg x79.2).bind fun x81 =>
 (asInt .u8 (x81.1)).bind fun x82 =>
 (zh x81.2).bind fun x83 =>
 (zS x38 x50 7).bind fun x84 =>
 (zg x84).bind fun x85 =>
 (asInt .i64 (x85.1)).bind fun x86 =>
 (zg x85.2).bind fun x87 =>
 (asInt .u8 (x87.1)).bind fun x88 =>
 (zg x87.2).bind fun x89 =>
 (asInt .u8 (x89.1)).bind fun x90 =>
 (zg x89.2).bind fun x91 =>
 (asInt .u8 (x91.1)).bind fun x92 =>
 (zg x91.2).bind fun x93 =>
 (asInt .u8 (x93.1)).bind fun x94 =>
 (zg x93.2).bind fun x95 =>
 (asInt .u8 (x95.1)).bind fun x96 =>
 (zg x95.2).bind fun x97 =>
 (asInt .u8 (x97.1)).bind fun x98 =>
 (zh x97.2).bind fun x99 =>
 cond ((IntKind.wrap .i64 (x53 * 65536)) != (IntKind.wrap .i64 (x70 * x86))) (
 (C.p (.func 104) [.int .i64 1, .agg [.int .u8 x55, .int .u8 x57, .int .u8 x59, .int .u8 x61, .int .u8 x63, .int .u8 x65]]).bind fun x102 =>
 (zy (x102)).bind fun x103 =>
 (zg x103).bind fun x104 =>
 (asInt .i64 (x104.1)).bind fun x105 =>
 (zg x104.2).bind fun x106 =>
 (asInt .i64 (x106.1)).bind fun x107 =>
 (zh x106.2).bind fun x108 =>
 (C.p (.func 95) [.slice .any x46, .agg [.int .i64 x53, .int .u8 x55, .int .u8 x57, .int .u8 x59, .int .u8 x61, .int .u8 x63, .int .u8 x65]]).bind fun x109 =>
 (zl (x109)).bind fun x110 =>
 some (.normal, (zhX x37 x38 x39 x42 x44 x110 (IntKind.wrap .i64 (x47 + (if 0 < x105 then 0 else x105))) (IntKind.wrap .i64 (x48 + 1)) x49 (IntKind.wrap .i64 (x50 + 1))))) (
 (C.p (.func 95) [.slice .any x46, .agg [.int .i64 x53, .int .u8 x55, .int .u8 x57, .int .u8 x59, .int .u8 x61, .int .u8 x63, .int .u8 x65]]).bind fun x100 =>
 (zl (x100)).bind fun x101 =>
 some (.normal, (zhX x37 x38 x39 x42 x44 x101 x47 x48 x49 (IntKind.wrap .i64 (x50 + 1)))))) (
 none)
 | .ret =>
 none) (
 some ((.exit 2), (zhX r0 r1 n2 n3 n4 r5 n6 n7 n8 n9))) := by kernel_rfl
theorem e66_3 (C : CallT) (r0 : List (List V)) (r1 : List (List V)) (n2 : Int) (n3 : Int) (n4 : Int) (r5 : List (List V)) (n6 : Int) (n7 : Int) (n8 : Int) : zp GZ LZ C 66 none 3 (zjt r0 r1 n2 n3 n4 r5 n6 n7 n8) =
 cond (decide (n8 < ((r0.length : Nat) : Int))) (
 (C.w (zp GZ LZ C 66 none 6) (zhX r0 r1 n2 n3 n4 r5 n6 n7 n8 0)).bind fun x0 =>
 match x0.1 with
 | .normal =>
 none
 | .exit x2 =>
 cond (Nat.beq x2 2) (
 (zl ((nth x0.2.t 0))).bind fun x3 =>
 (zl ((nth x0.2.t 1))).bind fun x4 =>
 (asInt .i64 ((nth x0.2.t 2))).bind fun x5 =>
 (zai ((nth x0.2.t 7))).bind fun x6 =>
 (zg x6).bind fun x7 =>
 (asInt .i64 (x7.1)).bind fun x8 =>
 (zg x7.2).bind fun x9 =>
 (asInt .i64 (x9.1)).bind fun x10 =>
 (zh x9.2).bind fun x11 =>
 (zl ((nth x0.2.t 8))).bind fun x12 =>
 (asInt .i64 ((nth x0.2.t 9))).bind fun x13 =>
 (asInt .i64 ((nth x0.2.t 10))).bind fun x14 =>
 (asInt .i64 ((nth x0.2.t 11))).bind fun x15 =>
 (asInt .i64 ((nth x0.2.t 12))).bind fun x16 =>
 some (.normal, (zjt x3 x4 x5 x8 x10 x12 x13 x14 (IntKind.wrap .i64 (x15 + 1))))) (
 none)
 | .ret =>
 none) (
 some ((.exit 0), (zjt r0 r1 n2 n3 n4 r5 n6 n7 n8))) := by kernel_rfl
theorem e66 (C : CallT) (r0 : List (List V)) (r1 : List (List V)) (n2 : Int) : zO GZ LZ C (.func 66) [.slice .any r0, .slice .any r1, .int .i64 n2] [] =
 (C.w (zp GZ LZ C 66 none 3) (zjt r0 r1 n2 0 0 [] 0 0 0)).bind fun x0 =>
 match x0.1 with
 | .normal =>
 none
 | .exit x2 =>
 cond (Nat.beq x2 0) (
 (zl ((nth x0.2.t 0))).bind fun x3 =>
 (zl ((nth x0.2.t 1))).bind fun x4 =>
 (asInt .i64 ((nth x0.2.t 2))).bind fun x5 =>
 (zai ((nth x0.2.t 7))).bind fun x6 =>
 (zg x6).bind fun x7 =>
 (asInt .i64 (x7.1)).bind fun x8 =>
 (zg x7.2).bind fun x9 =>
 (asInt .i64 (x9.1)).bind fun x10 =>
 (zh x9.2).bind fun x11 =>
 (zl ((nth x0.2.t 8))).bind fun x12 =>
 (asInt .i64 ((nth x0.2.t 9))).bind fun x13 =>
 (asInt .i64 ((nth x0.2.t 10))).bind fun x14 =>
 (asInt .i64 ((nth x0.2.t 11))).bind fun x15 =>
 (C.p (.func 96) [.slice .any x12, .int .i64 x5, .int .i64 x13, .int .i64 x14]).bind fun x16 =>
 (zy (x16)).bind fun x17 =>
 (zg x17).bind fun x18 =>
 (zl (x18.1)).bind fun x19 =>
 (zg x18.2).bind fun x20 =>
 (zi (x20.1)).bind fun x21 =>
 (zg x21).bind fun x22 =>
 (asInt .i64 (x22.1)).bind fun x23 =>
 (zg x22.2).bind fun x24 =>
 (asInt .i64 (x24.1)).bind fun x25 =>
 (zh x24.2).bind fun x26 =>
 (zh x20.2).bind fun x27 =>
 some (.tuple [.slice .any x19, .agg [.int .i64 x23, .int .i64 x25]], [])) (
 none)
 | .ret =>
 none := by kernel_rfl
theorem e81 (C : CallT) (r0 : List (List V)) (n1 : Int) : zO GZ LZ C (.func 81) [.slice .any r0, .int .i64 n1] [] =
 (C.p (.func 77) [.int .i64 n1]).bind fun x0 =>
 (zl (x0)).bind fun x1 =>
 (C.p (.func 66) [.slice .any r0, .slice .any x1, .int .i64 6]).bind fun x2 =>
 (zy (x2)).bind fun x3 =>
 (zg x3).bind fun x4 =>
 (zl (x4.1)).bind fun x5 =>
 (zg x4.2).bind fun x6 =>
 (zi (x6.1)).bind fun x7 =>
 (zg x7).bind fun x8 =>
 (asInt .i64 (x8.1)).bind fun x9 =>
 (zg x8.2).bind fun x10 =>
 (asInt .i64 (x10.1)).bind fun x11 =>
 (zh x10.2).bind fun x12 =>
 (zh x6.2).bind fun x13 =>
 some (.tuple [.slice .any x5, .agg [.int .i64 x9, .int .i64 x11]], []) := by kernel_rfl
theorem e70 (C : CallT) (r0 : List (List V)) (n1 : Int) : zO GZ LZ C (.func 70) [.slice .any r0, .int .i64 n1] [] =
 (C.p (.func 96) [.slice .any r0, .int .i64 n1, .int .i64 0, .int .i64 0]).bind fun x0 =>
 (zy (x0)).bind fun x1 =>
 (zg x1).bind fun x2 =>
 (zl (x2.1)).bind fun x3 =>
 (zg x2.2).bind fun x4 =>
 (zi (x4.1)).bind fun x5 =>
 (zg x5).bind fun x6 =>
 (asInt .i64 (x6.1)).bind fun x7 =>
 (zg x6.2).bind fun x8 =>
 (asInt .i64 (x8.1)).bind fun x9 =>
 (zh x8.2).bind fun x10 =>
 (zh x4.2).bind fun x11 =>
 some (.tuple [.slice .any x3, .agg [.int .i64 x7, .int .i64 x9]], []) := by kernel_rfl
def zeV (p0 : List (List V)) (p1 : List (List V)) (p2 : Bool) (p3 : Int) : St := ⟨(sp 0 42 [(0, .slice .any p0), (1, .slice .any p1), (4, .bool p2), (5, .int .i64 p3)]), []⟩
theorem e53_4 (C : CallT) (r0 : List (List V)) (r1 : List (List V)) (b2 : Bool) (n3 : Int) : zp GZ LZ C 53 none 4 (zeV r0 r1 b2 n3) =
 cond (decide (n3 < ((r0.length : Nat) : Int))) (
 (zS r0 n3 7).bind fun x0 =>
 (zg x0).bind fun x1 =>
 (asInt .i64 (x1.1)).bind fun x2 =>
 (zg x1.2).bind fun x3 =>
 (asInt .u8 (x3.1)).bind fun x4 =>
 (zg x3.2).bind fun x5 =>
 (asInt .u8 (x5.1)).bind fun x6 =>
 (zg x5.2).bind fun x7 =>
 (asInt .u8 (x7.1)).bind fun x8 =>
 (zg x7.2).bind fun x9 =>
 (asInt .u8 (x9.1)).bind fun x10 =>
 (zg x9.2).bind fun x11 =>
 (asInt .u8 (x11.1)).bind fun x12 =>
 (zg x11.2).bind fun x13 =>
 (asInt .u8 (x13.1)).bind fun x14 =>
 (zh x13.2).bind fun x15 =>
 (zS r1 n3 7).bind fun x16 =>
 (zg x16).bind fun x17 =>
 (asInt .i64 (x17.1)).bind fun x18 =>
 (zg x17.2).bind fun x19 =>
 (asInt .u8 (x19.1)).bind fun x20 =>
 (zg x19.2).bind fun x21 =>
 (asInt .u8 (x21.1)).bind fun x22 =>
 (zg x21.2).bind fun x23 =>
 (asInt .u8 (x23.1)).bind fun x24 =>
 (zg x23.2).bind fun x25 =>
 (asInt .u8 (x25.1)).bind fun x26 =>
 (zg x25.2).bind fun x27 =>
 (asInt .u8 (x27.1)).bind fun x28 =>
 (zg x27.2).bind fun x29 =>
 (asInt .u8 (x29.1)).bind fun x30 =>
 (zh x29.2).bind fun x31 =>
 cond (x2 != x18) (
 some (.ret, (zeV r0 r1 false n3))) (
 (zS r0 n3 7).bind fun x32 =>
 (zg x32).bind fun x33 =>
 (asInt .i64 (x33.1)).bind fun x34 =>
 (zg x33.2).bind fun x35 =>
 (asInt .u8 (x35.1)).bind fun x36 =>
 (zg x35.2).bind fun x37 =>
 (asInt .u8 (x37.1)).bind fun x38 =>
 (zg x37.2).bind fun x39 =>
 (asInt .u8 (x39.1)).bind fun x40 =>
 (zg x39.2).bind fun x41 =>
 (asInt .u8 (x41.1)).bind fun x42 =>
 (zg x41.2).bind fun x43 =>
 (asInt .u8 (x43.1)).bind fun x44 =>
 (zg x43.2).bind fun x45 =>
 (asInt .u8 (x45.1)).bind fun x46 =>
 (zh x45.2).bind fun x47 =>
 (zS r1 n3 7).bind fun x48 =>
 (zg x48).bind fun x49 =>
 (asInt .i64 (x49.1)).bind fun x50 =>
 (zg x49.2).bind fun x51 =>
 (asInt .u8 (x51.1)).bind fun x52 =>
 (zg x51.2).bind fun x53 =>
 (asInt .u8 (x53.1)).bind fun x54 =>
 (zg x53.2).bind fun x55 =>
 (asInt .u8 (x55.1)).bind fun x56 =>
 (zg x55.2).bind fun x57 =>
 (asInt .u8 (x57.1)).bind fun x58 =>
 (zg x57.2).bind fun x59 =>
 (asInt .u8 (x59.1)).bind fun x60 =>
 (zg x59.2).bind fun x61 =>
 (asInt .u8 (x61.1)).bind fun x62 =>
 (zh x61.2).bind fun x63 =>
 (C.p (.func 93) [.agg [.int .u8 x36, .int .u8 x38, .int .u8 x40, .int .u8 x42, .int .u8 x44, .int .u8 x46], .agg [.int .u8 x52, .int .u8 x54, .int .u8 x56, .int .u8 x58, .int .u8 x60, .int .u8 x62]]).bind fun x64 =>
 (asInt .i64 (x64)).bind fun x65 =>
 cond (x65 != 0) (
 some (.ret, (zeV r0 r1 false n3))) (
 some (.normal, (zeV r0 r1 b2 (IntKind.wrap .i64 (n3 + 1))))))) (
 some ((.exit 0), (zeV r0 r1 b2 n3))) := by kernel_rfl
theorem e53 (C : CallT) (r0 : List (List V)) (r1 : List (List V)) : zO GZ LZ C (.func 53) [.slice .any r0, .slice .any r1] [] =
 cond (((r0.length : Nat) : Int) != ((r1.length : Nat) : Int)) (
 some (.bool false, [])) (
 (C.w (zp GZ LZ C 53 none 4) (zeV r0 r1 false 0)).bind fun x0 =>
 match x0.1 with
 | .normal =>
 none
 | .exit x2 =>
 cond (Nat.beq x2 0) (
 (zl ((nth x0.2.t 0))).bind fun x3 =>
 (zl ((nth x0.2.t 1))).bind fun x4 =>
 (asBool ((nth x0.2.t 4))).bind fun x5 =>
 (asInt .i64 ((nth x0.2.t 5))).bind fun x6 =>
 some (.bool true, [])) (
 none)
 | .ret =>
 (zl ((nth x0.2.t 0))).bind fun x7 =>
 (zl ((nth x0.2.t 1))).bind fun x8 =>
 (asBool ((nth x0.2.t 4))).bind fun x9 =>
 (asInt .i64 ((nth x0.2.t 5))).bind fun x10 =>
 some (.bool x9, [])) := by kernel_rfl
def zfw (p0 : List (List V)) (p1 : Int) (p2 : Int) (p3 : Int) (p4 : Int) (p5 : Int) : St := ⟨(sp 0 37 [(0, .slice .any p0), (2, .box [.int .i64 p1, .int .i64 p2]), (3, .int .i64 p3), (4, .int .i64 p4), (5, .int .i64 p5)]), []⟩
theorem e68_3 (C : CallT) (r0 : List (List V)) (n1 : Int) (n2 : Int) (n3 : Int) (n4 : Int) (n5 : Int) : zp GZ LZ C 68 none 3 (zfw r0 n1 n2 n3 n4 n5) =
 cond (decide (n5 < ((r0.length : Nat) : Int))) (
 (zS r0 n5 7).bind fun x0 =>
 (zg x0).bind fun x1 =>
 (asInt .i64 (x1.1)).bind fun x2 =>
 (zg x1.2).bind fun x3 =>
 (asInt .u8 (x3.1)).bind fun x4 =>
 (zg x3.2).bind fun x5 =>
 (asInt .u8 (x5.1)).bind fun x6 =>
 (zg x5.2).bind fun x7 =>
 (asInt .u8 (x7.1)).bind fun x8 =>
 (zg x7.2).bind fun x9 =>
 (asInt .u8 (x9.1)).bind fun x10 =>
 (zg x9.2).bind fun x11 =>
 (asInt .u8 (x11.1)).bind fun x12 =>
 (zg x11.2).bind fun x13 =>
 (asInt .u8 (x13.1)).bind fun x14 =>
 (zh x13.2).bind fun x15 =>
 (zS r0 n5 7).bind fun x16 =>
 (zg x16).bind fun x17 =>
 (asInt .i64 (x17.1)).bind fun x18 =>
 (zg x17.2).bind fun x19 =>
 (asInt .u8 (x19.1)).bind fun x20 =>
 (zg x19.2).bind fun x21 =>
 (asInt .u8 (x21.1)).bind fun x22 =>
 (zg x21.2).bind fun x23 =>
 (asInt .u8 (x23.1)).bind fun x24 =>
 (zg x23.2).bind fun x25 =>
 (asInt .u8 (x25.1)).bind fun x26 =>
 (zg x25.2).bind fun x27 =>
 (asInt .u8 (x27.1)).bind fun x28 =>
 (zg x27.2).bind fun x29 =>
 (asInt .u8 (x29.1)).bind fun x30 =>
 (zh x29.2).bind fun x31 =>
 (C.p (.func 104) [.int .i64 x2, .agg [.int .u8 x20, .int .u8 x22, .int .u8 x24, .int .u8 x26, .int .u8 x28, .int .u8 x30]]).bind fun x32 =>
 (zy (x32)).bind fun x33 =>
 (zg x33).bind fun x34 =>
 (asInt .i64 (x34.1)).bind fun x35 =>
 (zg x34.2).bind fun x36 =>
 (asInt .i64 (x36.1)).bind fun x37 =>
 (zh x36.2).bind fun x38 =>
 some (.normal, (zfw r0 n1 n2 (IntKind.wrap .i64 (n3 + x35)) (IntKind.wrap .i64 (n4 + x37)) (IntKind.wrap .i64 (n5 + 1))))) (
 some ((.exit 0), (zfw r0 n1 n2 n3 n4 n5))) := by kernel_rfl
theorem e68 (C : CallT) (r0 : List (List V)) : zO GZ LZ C (.func 68) [.slice .any r0] [] =
 (C.w (zp GZ LZ C 68 none 3) (zfw r0 0 0 0 0 0)).bind fun x0 =>
 match x0.1 with
 | .normal =>
 none
 | .exit x2 =>
 cond (Nat.beq x2 0) (
 (zl ((nth x0.2.t 0))).bind fun x3 =>
 (zai ((nth x0.2.t 2))).bind fun x4 =>
 (zg x4).bind fun x5 =>
 (asInt .i64 (x5.1)).bind fun x6 =>
 (zg x5.2).bind fun x7 =>
 (asInt .i64 (x7.1)).bind fun x8 =>
 (zh x7.2).bind fun x9 =>
 (asInt .i64 ((nth x0.2.t 3))).bind fun x10 =>
 (asInt .i64 ((nth x0.2.t 4))).bind fun x11 =>
 (asInt .i64 ((nth x0.2.t 5))).bind fun x12 =>
 (C.p (.func 78) [.int .i64 x10, .int .i64 x11]).bind fun x13 =>
 (zi (x13)).bind fun x14 =>
 (zg x14).bind fun x15 =>
 (asInt .i64 (x15.1)).bind fun x16 =>
 (zg x15.2).bind fun x17 =>
 (asInt .i64 (x17.1)).bind fun x18 =>
 (zh x17.2).bind fun x19 =>
 some (.agg [.int .i64 x16, .int .i64 x18], [])) (
 none)
 | .ret =>
 none := by kernel_rfl
def zhY (p0 : List (List V)) (p1 : List (List V)) (p2 : Int) (p3 : Int) (p4 : Int) (p5 : Int) (p6 : Int) : St := ⟨(sp 0 60 [(0, .slice .any p0), (1, .slice .any p1), (4, .box [.int .i64 p2, .int .i64 p3]), (5, .box [.int .i64 p4, .int .i64 p5]), (6, .int .i64 p6)]), []⟩
def zck (p0 : List (List V)) (p1 : List (List V)) (p2 : Int) (p3 : Int) (p4 : Int) (p5 : Int) (p6 : Int) (p7 : Int) (p8 : Int) (p9 : Int) : St := ⟨(sp 0 60 [(0, .slice .any p0), (1, .slice .any p1), (4, .box [.int .i64 p2, .int .i64 p3]), (5, .box [.int .i64 p4, .int .i64 p5]), (6, .int .i64 p6), (7, .box [.int .i64 p7, .int .i64 p8]), (8, .int .i64 p9)]), []⟩
theorem e84_7 (C : CallT) (r0 : List (List V)) (r1 : List (List V)) (n2 : Int) (n3 : Int) (n4 : Int) (n5 : Int) (n6 : Int) (n7 : Int) (n8 : Int) (n9 : Int) : zp GZ LZ C 84 none 7 (zck r0 r1 n2 n3 n4 n5 n6 n7 n8 n9) =
 cond (decide (n9 < 6)) (
 cond (decide (n9 < ((r1.length : Nat) : Int))) (
 (zS r1 n9 2).bind fun x48 =>
 (zg x48).bind fun x49 =>
 (asInt .i64 (x49.1)).bind fun x50 =>
 (zg x49.2).bind fun x51 =>
 (asInt .i64 (x51.1)).bind fun x52 =>
 (zh x51.2).bind fun x53 =>
 (zS r0 n6 7).bind fun x54 =>
 (zg x54).bind fun x55 =>
 (asInt .i64 (x55.1)).bind fun x56 =>
 (zg x55.2).bind fun x57 =>
 (asInt .u8 (x57.1)).bind fun x58 =>
 (zg x57.2).bind fun x59 =>
 (asInt .u8 (x59.1)).bind fun x60 =>
 (zg x59.2).bind fun x61 =>
 (asInt .u8 (x61.1)).bind fun x62 =>
 (zg x61.2).bind fun x63 =>
 (asInt .u8 (x63.1)).bind fun x64 =>
 (zg x63.2).bind fun x65 =>
 (asInt .u8 (x65.1)).bind fun x66 =>
 (zg x65.2).bind fun x67 =>
 (asInt .u8 (x67.1)).bind fun x68 =>
 (zh x67.2).bind fun x69 =>
 cond (decide (0 ≤ n9)) (
 cond (decide (n9.toNat < 6)) (
 cond (false || ((true && (Nat.beq (1 + (n9.toNat * 1)) 1)) || ((true && (Nat.beq (1 + (n9.toNat * 1)) 2)) || ((true && (Nat.beq (1 + (n9.toNat * 1)) 3)) || ((true && (Nat.beq (1 + (n9.toNat * 1)) 4)) || ((true && (Nat.beq (1 + (n9.toNat * 1)) 5)) || ((true && (Nat.beq (1 + (n9.toNat * 1)) 6)) || false))))))) (
 (za5 [x56, x58, x60, x62, x64, x66, x68] (1 + (n9.toNat * 1))).bind fun x70 =>
 cond (decide (x70 > 0)) (
 (zS r0 n6 7).bind fun x71 =>
 (zg x71).bind fun x72 =>
 (asInt .i64 (x72.1)).bind fun x73 =>
 (zg x72.2).bind fun x74 =>
 (asInt .u8 (x74.1)).bind fun x75 =>
 (zg x74.2).bind fun x76 =>
 (asInt .u8 (x76.1)).bind fun x77 =>
 (zg x76.2).bind fun x78 =>
 (asInt .u8 (x78.1)).bind fun x79 =>
 (zg x78.2).bind fun x80 =>
 (asInt .u8 (x80.1)).bind fun x81 =>
 (zg x80.2).bind fun x82 =>
 (asInt .u8 (x82.1)).bind fun x83 =>
 (zg x82.2).bind fun x84 =>
 (asInt .u8 (x84.1)).bind fun x85 =>
 (zh x84.2).bind fun x86 =>
 cond (decide (0 ≤ n9)) (
 cond (decide (n9.toNat < 6)) (
 cond (false || ((true && (Nat.beq (1 + (n9.toNat * 1)) 1)) || ((true && (Nat.beq (1 + (n9.toNat * 1)) 2)) || ((true && (Nat.beq (1 + (n9.toNat * 1)) 3)) || ((true && (Nat.beq (1 + (n9.toNat * 1)) 4)) || ((true && (Nat.beq (1 + (n9.toNat * 1)) 5)) || ((true && (Nat.beq (1 + (n9.toNat * 1)) 6)) || false))))))) (
 (za5 [x73, x75, x77, x79, x81, x83, x85] (1 + (n9.toNat * 1))).bind fun x87 =>
 (C.p (.func 108) [.agg [.int .i64 x50, .int .i64 x52], .int .i64 (IntKind.wrap .i64 x87)]).bind fun x88 =>
 (zi (x88)).bind fun x89 =>
 (zg x89).bind fun x90 =>
 (asInt .i64 (x90.1)).bind fun x91 =>
 (zg x90.2).bind fun x92 =>
 (asInt .i64 (x92.1)).bind fun x93 =>
 (zh x92.2).bind fun x94 =>
 (C.p (.func 67) [.agg [.int .i64 n7, .int .i64 n8], .agg [.int .i64 x91, .int .i64 x93]]).bind fun x95 =>
 (zi (x95)).bind fun x96 =>
 (zg x96).bind fun x97 =>
 (asInt .i64 (x97.1)).bind fun x98 =>
 (zg x97.2).bind fun x99 =>
 (asInt .i64 (x99.1)).bind fun x100 =>
 (zh x99.2).bind fun x101 =>
 some (.normal, (zck r0 r1 n2 n3 n4 n5 n6 x98 x100 (IntKind.wrap .i64 (n9 + 1))))) (
 none)) (
 none)) (
 none)) (
 some (.normal, (zck r0 r1 n2 n3 n4 n5 n6 n7 n8 (IntKind.wrap .i64 (n9 + 1)))))) (
 none)) (
 none)) (
 none)) (
 (zS r0 n6 7).bind fun x0 =>
 (zg x0).bind fun x1 =>
 (asInt .i64 (x1.1)).bind fun x2 =>
 (zg x1.2).bind fun x3 =>
 (asInt .u8 (x3.1)).bind fun x4 =>
 (zg x3.2).bind fun x5 =>
 (asInt .u8 (x5.1)).bind fun x6 =>
 (zg x5.2).bind fun x7 =>
 (asInt .u8 (x7.1)).bind fun x8 =>
 (zg x7.2).bind fun x9 =>
 (asInt .u8 (x9.1)).bind fun x10 =>
 (zg x9.2).bind fun x11 =>
 (asInt .u8 (x11.1)).bind fun x12 =>
 (zg x11.2).bind fun x13 =>
 (asInt .u8 (x13.1)).bind fun x14 =>
 (zh x13.2).bind fun x15 =>
 cond (decide (0 ≤ n9)) (
 cond (decide (n9.toNat < 6)) (
 cond (false || ((true && (Nat.beq (1 + (n9.toNat * 1)) 1)) || ((true && (Nat.beq (1 + (n9.toNat * 1)) 2)) || ((true && (Nat.beq (1 + (n9.toNat * 1)) 3)) || ((true && (Nat.beq (1 + (n9.toNat * 1)) 4)) || ((true && (Nat.beq (1 + (n9.toNat * 1)) 5)) || ((true && (Nat.beq (1 + (n9.toNat * 1)) 6)) || false))))))) (
 (za5 [x2, x4, x6, x8, x10, x12, x14] (1 + (n9.toNat * 1))).bind fun x16 =>
 cond (decide (x16 > 0)) (
 (zS r0 n6 7).bind fun x17 =>
 (zg x17).bind fun x18 =>
 (asInt .i64 (x18.1)).bind fun x19 =>
 (zg x18.2).bind fun x20 =>
 (asInt .u8 (x20.1)).bind fun x21 =>
 (zg x20.2).bind fun x22 =>
 (asInt .u8 (x22.1)).bind fun x23 =>
 (zg x22.2).bind fun x24 =>
 (asInt .u8 (x24.1)).bind fun x25 =>
 (zg x24.2).bind fun x26 =>
 (asInt .u8 (x26.1)).bind fun x27 =>
 (zg x26.2).bind fun x28 =>
 (asInt .u8 (x28.1)).bind fun x29 =>
 (zg x28.2).bind fun x30 =>
 (asInt .u8 (x30.1)).bind fun x31 =>
 (zh x30.2).bind fun x32 =>
 cond (decide (0 ≤ n9)) (
 cond (decide (n9.toNat < 6)) (
 cond (false || ((true && (Nat.beq (1 + (n9.toNat * 1)) 1)) || ((true && (Nat.beq (1 + (n9.toNat * 1)) 2)) || ((true && (Nat.beq (1 + (n9.toNat * 1)) 3)) || ((true && (Nat.beq (1 + (n9.toNat * 1)) 4)) || ((true && (Nat.beq (1 + (n9.toNat * 1)) 5)) || ((true && (Nat.beq (1 + (n9.toNat * 1)) 6)) || false))))))) (
 (za5 [x19, x21, x23, x25, x27, x29, x31] (1 + (n9.toNat * 1))).bind fun x33 =>
 (C.p (.func 108) [.agg [.int .i64 (-65536), .int .i64 65536], .int .i64 (IntKind.wrap .i64 x33)]).bind fun x34 =>
 (zi (x34)).bind fun x35 =>
 (zg x35).bind fun x36 =>
 (asInt .i64 (x36.1)).bind fun x37 =>
 (zg x36.2).bind fun x38 =>
 (asInt .i64 (x38.1)).bind fun x39 =>
 (zh x38.2).bind fun x40 =>
 (C.p (.func 67) [.agg [.int .i64 n7, .int .i64 n8], .agg [.int .i64 x37, .int .i64 x39]]).bind fun x41 =>
 (zi (x41)).bind fun x42 =>
 (zg x42).bind fun x43 =>
 (asInt .i64 (x43.1)).bind fun x44 =>
 (zg x43.2).bind fun x45 =>
 (asInt .i64 (x45.1)).bind fun x46 =>
 (zh x45.2).bind fun x47 =>
 some (.normal, (zck r0 r1 n2 n3 n4 n5 n6 x44 x46 (IntKind.wrap .i64 (n9 + 1))))) (
 none)) (
 none)) (
 none)) (
 some (.normal, (zck r0 r1 n2 n3 n4 n5 n6 n7 n8 (IntKind.wrap .i64 (n9 + 1)))))) (
 none)) (
 none)) (
 none))) (
 some ((.exit 2), (zck r0 r1 n2 n3 n4 n5 n6 n7 n8 n9))) := by kernel_rfl
theorem e84_3 (C : CallT) (r0 : List (List V)) (r1 : List (List V)) (n2 : Int) (n3 : Int) (n4 : Int) (n5 : Int) (n6 : Int) : zp GZ LZ C 84 none 3 (zhY r0 r1 n2 n3 n4 n5 n6) =
 cond (decide (n6 < ((r0.length : Nat) : Int))) (
 (zS r0 n6 7).bind fun x0 =>
 (zg x0).bind fun x1 =>
 (asInt .i64 (x1.1)).bind fun x2 =>
 (zg x1.2).bind fun x3 =>
 (asInt .u8 (x3.1)).bind fun x4 =>
 (zg x3.2).bind fun x5 =>
 (asInt .u8 (x5.1)).bind fun x6 =>
 (zg x5.2).bind fun x7 =>
 (asInt .u8 (x7.1)).bind fun x8 =>
 (zg x7.2).bind fun x9 =>
 (asInt .u8 (x9.1)).bind fun x10 =>
 (zg x9.2).bind fun x11 =>
 (asInt .u8 (x11.1)).bind fun x12 =>
 (zg x11.2).bind fun x13 =>
 (asInt .u8 (x13.1)).bind fun x14 =>
 (zh x13.2).bind fun x15 =>
 (C.p (.func 86) [.int .i64 x2]).bind fun x16 =>
 (zi (x16)).bind fun x17 =>
 (zg x17).bind fun x18 =>
 (asInt .i64 (x18.1)).bind fun x19 =>
 (zg x18.2).bind fun x20 =>
 (asInt .i64 (x20.1)).bind fun x21 =>
 (zh x20.2).bind fun x22 =>
 (C.w (zp GZ LZ C 84 none 7) (zck r0 r1 n2 n3 n4 n5 n6 x19 x21 0)).bind fun x23 =>
 match x23.1 with
 | .normal =>
 none
 | .exit x25 =>
 cond (Nat.beq x25 2) (
 (zl ((nth x23.2.t 0))).bind fun x26 =>
 (zl ((nth x23.2.t 1))).bind fun x27 =>
 (zai ((nth x23.2.t 4))).bind fun x28 =>
 (zg x28).bind fun x29 =>
 (asInt .i64 (x29.1)).bind fun x30 =>
 (zg x29.2).bind fun x31 =>
 (asInt .i64 (x31.1)).bind fun x32 =>
 (zh x31.2).bind fun x33 =>
 (zai ((nth x23.2.t 5))).bind fun x34 =>
 (zg x34).bind fun x35 =>
 (asInt .i64 (x35.1)).bind fun x36 =>
 (zg x35.2).bind fun x37 =>
 (asInt .i64 (x37.1)).bind fun x38 =>
 (zh x37.2).bind fun x39 =>
 (asInt .i64 ((nth x23.2.t 6))).bind fun x40 =>
 (zai ((nth x23.2.t 7))).bind fun x41 =>
 (zg x41).bind fun x42 =>
 (asInt .i64 (x42.1)).bind fun x43 =>
 (zg x42.2).bind fun x44 =>
 (asInt .i64 (x44.1)).bind fun x45 =>
 (zh x44.2).bind fun x46 =>
 (asInt .i64 ((nth x23.2.t 8))).bind fun x47 =>
 (C.p (.func 58) [.agg [.int .i64 x36, .int .i64 x38], .agg [.int .i64 x43, .int .i64 x45]]).bind fun x48 =>
 (zi (x48)).bind fun x49 =>
 (zg x49).bind fun x50 =>
 (asInt .i64 (x50.1)).bind fun x51 =>
 (zg x50.2).bind fun x52 =>
 (asInt .i64 (x52.1)).bind fun x53 =>
 (zh x52.2).bind fun x54 =>
 some (.normal, (zhY x26 x27 x30 x32 x51 x53 (IntKind.wrap .i64 (x40 + 1))))) (
 none)
 | .ret =>
 none) (
 some ((.exit 0), (zhY r0 r1 n2 n3 n4 n5 n6))) := by kernel_rfl
theorem e84 (C : CallT) (r0 : List (List V)) (r1 : List (List V)) : zO GZ LZ C (.func 84) [.slice .any r0, .slice .any r1] [] =
 (C.p (.func 86) [.int .i64 0]).bind fun x0 =>
 (zi (x0)).bind fun x1 =>
 (zg x1).bind fun x2 =>
 (asInt .i64 (x2.1)).bind fun x3 =>
 (zg x2.2).bind fun x4 =>
 (asInt .i64 (x4.1)).bind fun x5 =>
 (zh x4.2).bind fun x6 =>
 (C.w (zp GZ LZ C 84 none 3) (zhY r0 r1 0 0 x3 x5 0)).bind fun x7 =>
 match x7.1 with
 | .normal =>
 none
 | .exit x9 =>
 cond (Nat.beq x9 0) (
 (zl ((nth x7.2.t 0))).bind fun x10 =>
 (zl ((nth x7.2.t 1))).bind fun x11 =>
 (zai ((nth x7.2.t 4))).bind fun x12 =>
 (zg x12).bind fun x13 =>
 (asInt .i64 (x13.1)).bind fun x14 =>
 (zg x13.2).bind fun x15 =>
 (asInt .i64 (x15.1)).bind fun x16 =>
 (zh x15.2).bind fun x17 =>
 (zai ((nth x7.2.t 5))).bind fun x18 =>
 (zg x18).bind fun x19 =>
 (asInt .i64 (x19.1)).bind fun x20 =>
 (zg x19.2).bind fun x21 =>
 (asInt .i64 (x21.1)).bind fun x22 =>
 (zh x21.2).bind fun x23 =>
 (asInt .i64 ((nth x7.2.t 6))).bind fun x24 =>
 some (.agg [.int .i64 x20, .int .i64 x22], [])) (
 none)
 | .ret =>
 none := by kernel_rfl
def S45_3 (p0 : List (List V)) (p1 : Int) (p2 : Int) : St := ⟨(sp 0 20 [(0, .slice .any p0), (3, .int .i64 p1), (4, .int .i64 p2)]), []⟩
theorem e77 (C : CallT) (n0 : Int) : zO GZ LZ C (.func 77) [.int .i64 n0] [] =
 cond (n0 == 0) (
 some (.slice .nil [], [])) (
 some (.slice .any [[.int .i64 n0, .int .u8 0, .int .u8 0, .int .u8 0, .int .u8 0, .int .u8 0, .int .u8 0]], [])) := by kernel_rfl
theorem e82 (C : CallT) (n0 : Int) : zO GZ LZ C (.func 82) [.int .i64 n0] [] =
 cond (decide (n0 < 0)) (
 some (.slice .nil [], [])) (
 cond (decide (n0 > 5)) (
 some (.slice .nil [], [])) (
 cond (decide (0 ≤ n0)) (
 cond (decide (n0.toNat < 6)) (
 cond (false || ((true && (Nat.beq (1 + (n0.toNat * 1)) 1)) || ((true && (Nat.beq (1 + (n0.toNat * 1)) 2)) || ((true && (Nat.beq (1 + (n0.toNat * 1)) 3)) || ((true && (Nat.beq (1 + (n0.toNat * 1)) 4)) || ((true && (Nat.beq (1 + (n0.toNat * 1)) 5)) || ((true && (Nat.beq (1 + (n0.toNat * 1)) 6)) || false))))))) (
 some (.slice .any [[.int .i64 65536, .int .u8 (cond (Nat.beq (1 + (n0.toNat * 1)) 1) 1 0), .int .u8 (cond (Nat.beq (1 + (n0.toNat * 1)) 2) 1 0), .int .u8 (cond (Nat.beq (1 + (n0.toNat * 1)) 3) 1 0), .int .u8 (cond (Nat.beq (1 + (n0.toNat * 1)) 4) 1 0), .int .u8 (cond (Nat.beq (1 + (n0.toNat * 1)) 5) 1 0), .int .u8 (cond (Nat.beq (1 + (n0.toNat * 1)) 6) 1 0)]], [])) (
 none)) (
 none)) (
 none))) := by kernel_rfl
def zeo (p0 : List (List V)) (p1 : Int) (p2 : Int) (p3 : List (List V)) (p4 : Int) : St := ⟨(sp 0 70 [(0, .slice .any p0), (1, .int .i64 p1), (2, .int .i64 p2), (7, .slice .any p3), (8, .int .i64 p4)]), []⟩
def za3 (p0 : List (List V)) (p1 : Int) (p2 : Int) (p3 : List (List V)) (p4 : Int) (p5 : Int) (p6 : Int) (p7 : Int) (p8 : Int) (p9 : Int) (p10 : Int) (p11 : Int) (p12 : Int) (p13 : Int) : St := ⟨(sp 0 70 [(0, .slice .any p0), (1, .int .i64 p1), (2, .int .i64 p2), (7, .slice .any p3), (8, .int .i64 p4), (9, .box [.int .i64 p5, .int .u8 p6, .int .u8 p7, .int .u8 p8, .int .u8 p9, .int .u8 p10, .int .u8 p11]), (10, .int .i64 p12), (11, .int .i64 p13)]), []⟩
theorem zhZ (C : CallT) (r0 : List (List V)) (n1 : Int) (n2 : Int) (r3 : List (List V)) (n4 : Int) (n5 : Int) (n6 : Int) (n7 : Int) (n8 : Int) (n9 : Int) (n10 : Int) (n11 : Int) (n12 : Int) (n13 : Int) : zp GZ LZ C 72 none 7 (za3 r0 n1 n2 r3 n4 n5 n6 n7 n8 n9 n10 n11 n12 n13) =
 cond (decide (n13 < 6)) (
 (zS r0 n4 7).bind fun x0 =>
 (zg x0).bind fun x1 =>
 (asInt .i64 (x1.1)).bind fun x2 =>
 (zg x1.2).bind fun x3 =>
 (asInt .u8 (x3.1)).bind fun x4 =>
 (zg x3.2).bind fun x5 =>
 (asInt .u8 (x5.1)).bind fun x6 =>
 (zg x5.2).bind fun x7 =>
 (asInt .u8 (x7.1)).bind fun x8 =>
 (zg x7.2).bind fun x9 =>
 (asInt .u8 (x9.1)).bind fun x10 =>
 (zg x9.2).bind fun x11 =>
 (asInt .u8 (x11.1)).bind fun x12 =>
 (zg x11.2).bind fun x13 =>
 (asInt .u8 (x13.1)).bind fun x14 =>
 (zh x13.2).bind fun x15 =>
 cond (decide (0 ≤ n13)) (
 cond (decide (n13.toNat < 6)) (
 cond (false || ((true && (Nat.beq (1 + (n13.toNat * 1)) 1)) || ((true && (Nat.beq (1 + (n13.toNat * 1)) 2)) || ((true && (Nat.beq (1 + (n13.toNat * 1)) 3)) || ((true && (Nat.beq (1 + (n13.toNat * 1)) 4)) || ((true && (Nat.beq (1 + (n13.toNat * 1)) 5)) || ((true && (Nat.beq (1 + (n13.toNat * 1)) 6)) || false))))))) (
 (za5 [x2, x4, x6, x8, x10, x12, x14] (1 + (n13.toNat * 1))).bind fun x16 =>
 cond ((IntKind.wrap .u8 (IntKind.wrap .i64 (n12 + 1))) == 0) (
 none) (
 cond (decide (0 ≤ n13)) (
 cond (decide (n13.toNat < 6)) (
 cond (false || ((true && (Nat.beq (1 + (n13.toNat * 1)) 1)) || ((true && (Nat.beq (1 + (n13.toNat * 1)) 2)) || ((true && (Nat.beq (1 + (n13.toNat * 1)) 3)) || ((true && (Nat.beq (1 + (n13.toNat * 1)) 4)) || ((true && (Nat.beq (1 + (n13.toNat * 1)) 5)) || ((true && (Nat.beq (1 + (n13.toNat * 1)) 6)) || false))))))) (
 cond (decide (0 ≤ n13)) (
 cond (decide (n13.toNat < 6)) (
 cond (false || ((true && (Nat.beq (1 + (n13.toNat * 1)) 1)) || ((true && (Nat.beq (1 + (n13.toNat * 1)) 2)) || ((true && (Nat.beq (1 + (n13.toNat * 1)) 3)) || ((true && (Nat.beq (1 + (n13.toNat * 1)) 4)) || ((true && (Nat.beq (1 + (n13.toNat * 1)) 5)) || ((true && (Nat.beq (1 + (n13.toNat * 1)) 6)) || false))))))) (
 (za5 [n5, (cond (Nat.beq (1 + (n13.toNat * 1)) 1) (Int.tmod (Int.tmod x16 7) (IntKind.wrap .u8 (IntKind.wrap .i64 (n12 + 1)))) n6), (cond (Nat.beq (1 + (n13.toNat * 1)) 2) (Int.tmod (Int.tmod x16 7) (IntKind.wrap .u8 (IntKind.wrap .i64 (n12 + 1)))) n7), (cond (Nat.beq (1 + (n13.toNat * 1)) 3) (Int.tmod (Int.tmod x16 7) (IntKind.wrap .u8 (IntKind.wrap .i64 (n12 + 1)))) n8), (cond (Nat.beq (1 + (n13.toNat * 1)) 4) (Int.tmod (Int.tmod x16 7) (IntKind.wrap .u8 (IntKind.wrap .i64 (n12 + 1)))) n9), (cond (Nat.beq (1 + (n13.toNat * 1)) 5) (Int.tmod (Int.tmod x16 7) (IntKind.wrap .u8 (IntKind.wrap .i64 (n12 + 1)))) n10), (cond (Nat.beq (1 + (n13.toNat * 1)) 6) (Int.tmod (Int.tmod x16 7) (IntKind.wrap .u8 (IntKind.wrap .i64 (n12 + 1)))) n11)] (1 + (n13.toNat * 1))).bind fun x17 =>
 some (.normal, (za3 r0 n1 n2 r3 n4 n5 (cond (Nat.beq (1 + (n13.toNat * 1)) 1) (Int.tmod (Int.tmod x16 7) (IntKind.wrap .u8 (IntKind.wrap .i64 (n12 + 1)))) n6) (cond (Nat.beq (1 + (n13.toNat * 1)) 2) (Int.tmod (Int.tmod x16 7) (IntKind.wrap .u8 (IntKind.wrap .i64 (n12 + 1)))) n7) (cond (Nat.beq (1 + (n13.toNat * 1)) 3) (Int.tmod (Int.tmod x16 7) (IntKind.wrap .u8 (IntKind.wrap .i64 (n12 + 1)))) n8) (cond (Nat.beq (1 + (n13.toNat * 1)) 4) (Int.tmod (Int.tmod x16 7) (IntKind.wrap .u8 (IntKind.wrap .i64 (n12 + 1)))) n9) (cond (Nat.beq (1 + (n13.toNat * 1)) 5) (Int.tmod (Int.tmod x16 7) (IntKind.wrap .u8 (IntKind.wrap .i64 (n12 + 1)))) n10) (cond (Nat.beq (1 + (n13.toNat * 1)) 6) (Int.tmod (Int.tmod x16 7) (IntKind.wrap .u8 (IntKind.wrap .i64 (n12 + 1)))) n11) (IntKind.wrap .i64 (n12 - (IntKind.wrap .i64 x17))) (IntKind.wrap .i64 (n13 + 1))))) (
 none)) (
 none)) (
 none)) (
 none)) (
 none)) (
 none))) (
 none)) (
 none)) (
 none)) (
 some ((.exit 2), (za3 r0 n1 n2 r3 n4 n5 n6 n7 n8 n9 n10 n11 n12 n13))) := by kernel_rfl
theorem zqr (C : CallT) (r0 : List (List V)) (n1 : Int) (n2 : Int) (r3 : List (List V)) (n4 : Int) : zp GZ LZ C 72 none 3 (zeo r0 n1 n2 r3 n4) =
 cond (decide (n4 < ((r0.length : Nat) : Int))) (
 cond (decide (((r3.length : Nat) : Int) < n1)) (
 (zS r0 n4 7).bind fun x0 =>
 (zg x0).bind fun x1 =>
 (asInt .i64 (x1.1)).bind fun x2 =>
 (zg x1.2).bind fun x3 =>
 (asInt .u8 (x3.1)).bind fun x4 =>
 (zg x3.2).bind fun x5 =>
 (asInt .u8 (x5.1)).bind fun x6 =>
 (zg x5.2).bind fun x7 =>
 (asInt .u8 (x7.1)).bind fun x8 =>
 (zg x7.2).bind fun x9 =>
 (asInt .u8 (x9.1)).bind fun x10 =>
 (zg x9.2).bind fun x11 =>
 (asInt .u8 (x11.1)).bind fun x12 =>
 (zg x11.2).bind fun x13 =>
 (asInt .u8 (x13.1)).bind fun x14 =>
 (zh x13.2).bind fun x15 =>
 cond (n2 == 0) (
 none) (
 (C.w (zp GZ LZ C 72 none 7) (za3 r0 n1 n2 r3 n4 (Int.tmod x2 n2) 0 0 0 0 0 0 6 0)).bind fun x16 =>
 match x16.1 with
 | .normal =>
 none
 | .exit x18 =>
 cond (Nat.beq x18 2) (
 (zl ((nth x16.2.t 0))).bind fun x19 =>
 (asInt .i64 ((nth x16.2.t 1))).bind fun x20 =>
 (asInt .i64 ((nth x16.2.t 2))).bind fun x21 =>
 (zl ((nth x16.2.t 7))).bind fun x22 =>
 (asInt .i64 ((nth x16.2.t 8))).bind fun x23 =>
 (zai ((nth x16.2.t 9))).bind fun x24 =>
 (zg x24).bind fun x25 =>
 (asInt .i64 (x25.1)).bind fun x26 =>
 (zg x25.2).bind fun x27 =>
 (asInt .u8 (x27.1)).bind fun x28 =>
 (zg x27.2).bind fun x29 =>
 (asInt .u8 (x29.1)).bind fun x30 =>
 (zg x29.2).bind fun x31 =>
 (asInt .u8 (x31.1)).bind fun x32 =>
 (zg x31.2).bind fun x33 =>
 (asInt .u8 (x33.1)).bind fun x34 =>
 (zg x33.2).bind fun x35 =>
 (asInt .u8 (x35.1)).bind fun x36 =>
 (zg x35.2).bind fun x37 =>
 (asInt .u8 (x37.1)).bind fun x38 =>
 (zh x37.2).bind fun x39 =>
 (asInt .i64 ((nth x16.2.t 10))).bind fun x40 =>
 (asInt .i64 ((nth x16.2.t 11))).bind fun x41 =>
 cond (x26 != 0) (
 (C.p (.func 95) [.slice .any x22, .agg [.int .i64 x26, .int .u8 x28, .int .u8 x30, .int .u8 x32, .int .u8 x34, .int .u8 x36, .int .u8 x38]]).bind fun x42 =>
 (zl (x42)).bind fun x43 =>
 (C.p (.func 52) [.slice .any x43]).bind fun x44 =>
 (asBool (x44)).bind fun x45 =>
 cond x45 (
 some (.normal, (zeo x19 x20 x21 x43 (IntKind.wrap .i64 (x23 + 1))))) (
 some (.normal, (zeo x19 x20 x21 x22 (IntKind.wrap .i64 (x23 + 1)))))) (
 some (.normal, (zeo x19 x20 x21 x22 (IntKind.wrap .i64 (x23 + 1)))))) (
 none)
 | .ret =>
 none)) (
 some ((.exit 0), (zeo r0 n1 n2 r3 n4)))) (
 some ((.exit 0), (zeo r0 n1 n2 r3 n4))) := by kernel_rfl
theorem e72 (C : CallT) (r0 : List (List V)) (n1 : Int) (n2 : Int) : zO GZ LZ C (.func 72) [.slice .any r0, .int .i64 n1, .int .i64 n2] [] =
 (C.w (zp GZ LZ C 72 none 3) (zeo r0 n1 n2 [] 0)).bind fun x0 =>
 match x0.1 with
 | .normal =>
 none
 | .exit x2 =>
 cond (Nat.beq x2 0) (
 (zl ((nth x0.2.t 0))).bind fun x3 =>
 (asInt .i64 ((nth x0.2.t 1))).bind fun x4 =>
 (asInt .i64 ((nth x0.2.t 2))).bind fun x5 =>
 (zl ((nth x0.2.t 7))).bind fun x6 =>
 (asInt .i64 ((nth x0.2.t 8))).bind fun x7 =>
 some (.slice .any x6, [])) (
 none)
 | .ret =>
 none := by kernel_rfl
def zgU (p0 : Int) (p1 : Int) (p2 : Int) (p3 : Int) (p4 : Int) (p5 : Int) (p6 : Int) (p7 : Int) : St := ⟨(sp 0 16 [(1, .box [.int .u8 p0, .int .u8 p1, .int .u8 p2, .int .u8 p3, .int .u8 p4, .int .u8 p5]), (3, .int .i64 p6), (4, .int .i64 p7)]), []⟩
theorem e88_3 (C : CallT) (n0 : Int) (n1 : Int) (n2 : Int) (n3 : Int) (n4 : Int) (n5 : Int) (n6 : Int) (n7 : Int) : zp GZ LZ C 88 none 3 (zgU n0 n1 n2 n3 n4 n5 n6 n7) =
 cond (decide (n7 < 6)) (
 cond (decide (0 ≤ n7)) (
 cond (decide (n7.toNat < 6)) (
 (za5 [n0, n1, n2, n3, n4, n5] (n7.toNat * 1)).bind fun x0 =>
 some (.normal, (zgU n0 n1 n2 n3 n4 n5 (IntKind.wrap .i64 (n6 + (IntKind.wrap .i64 x0))) (IntKind.wrap .i64 (n7 + 1))))) (
 none)) (
 none)) (
 some ((.exit 0), (zgU n0 n1 n2 n3 n4 n5 n6 n7))) := by kernel_rfl
theorem e88 (C : CallT) (n0 : Int) (n1 : Int) (n2 : Int) (n3 : Int) (n4 : Int) (n5 : Int) : zO GZ LZ C (.func 88) [.agg [.int .u8 n0, .int .u8 n1, .int .u8 n2, .int .u8 n3, .int .u8 n4, .int .u8 n5]] [] =
 (C.w (zp GZ LZ C 88 none 3) (zgU n0 n1 n2 n3 n4 n5 0 0)).bind fun x0 =>
 match x0.1 with
 | .normal =>
 none
 | .exit x2 =>
 cond (Nat.beq x2 0) (
 (zai ((nth x0.2.t 1))).bind fun x3 =>
 (zg x3).bind fun x4 =>
 (asInt .u8 (x4.1)).bind fun x5 =>
 (zg x4.2).bind fun x6 =>
 (asInt .u8 (x6.1)).bind fun x7 =>
 (zg x6.2).bind fun x8 =>
 (asInt .u8 (x8.1)).bind fun x9 =>
 (zg x8.2).bind fun x10 =>
 (asInt .u8 (x10.1)).bind fun x11 =>
 (zg x10.2).bind fun x12 =>
 (asInt .u8 (x12.1)).bind fun x13 =>
 (zg x12.2).bind fun x14 =>
 (asInt .u8 (x14.1)).bind fun x15 =>
 (zh x14.2).bind fun x16 =>
 (asInt .i64 ((nth x0.2.t 3))).bind fun x17 =>
 (asInt .i64 ((nth x0.2.t 4))).bind fun x18 =>
 some (.int .i64 x17, [])) (
 none)
 | .ret =>
 none := by kernel_rfl
def zep (p0 : Int) (p1 : Int) (p2 : Int) (p3 : Int) (p4 : Int) (p5 : Int) (p6 : Int) (p7 : Int) (p8 : Int) (p9 : Int) (p10 : Int) (p11 : Int) (p12 : Int) (p13 : Int) : St := ⟨(sp 0 24 [(2, .box [.int .u8 p0, .int .u8 p1, .int .u8 p2, .int .u8 p3, .int .u8 p4, .int .u8 p5]), (3, .box [.int .u8 p6, .int .u8 p7, .int .u8 p8, .int .u8 p9, .int .u8 p10, .int .u8 p11]), (4, .int .i64 p12), (5, .int .i64 p13)]), []⟩
theorem e93_2 (C : CallT) (n0 : Int) (n1 : Int) (n2 : Int) (n3 : Int) (n4 : Int) (n5 : Int) (n6 : Int) (n7 : Int) (n8 : Int) (n9 : Int) (n10 : Int) (n11 : Int) (n12 : Int) (n13 : Int) : zp GZ LZ C 93 none 2 (zep n0 n1 n2 n3 n4 n5 n6 n7 n8 n9 n10 n11 n12 n13) =
 cond (decide (n13 < 6)) (
 cond (decide (0 ≤ n13)) (
 cond (decide (n13.toNat < 6)) (
 (za5 [n0, n1, n2, n3, n4, n5] (n13.toNat * 1)).bind fun x0 =>
 cond (decide (0 ≤ n13)) (
 cond (decide (n13.toNat < 6)) (
 (za5 [n6, n7, n8, n9, n10, n11] (n13.toNat * 1)).bind fun x1 =>
 cond (decide (x0 < x1)) (
 some (.ret, (zep n0 n1 n2 n3 n4 n5 n6 n7 n8 n9 n10 n11 (-1) n13))) (
 cond (decide (0 ≤ n13)) (
 cond (decide (n13.toNat < 6)) (
 (za5 [n0, n1, n2, n3, n4, n5] (n13.toNat * 1)).bind fun x2 =>
 cond (decide (0 ≤ n13)) (
 cond (decide (n13.toNat < 6)) (
 (za5 [n6, n7, n8, n9, n10, n11] (n13.toNat * 1)).bind fun x3 =>
 cond (decide (x2 > x3)) (
 some (.ret, (zep n0 n1 n2 n3 n4 n5 n6 n7 n8 n9 n10 n11 1 n13))) (
 some (.normal, (zep n0 n1 n2 n3 n4 n5 n6 n7 n8 n9 n10 n11 n12 (IntKind.wrap .i64 (n13 + 1)))))) (
 none)) (
 none)) (
 none)) (
 none))) (
 none)) (
 none)) (
 none)) (
 none)) (
 some ((.exit 0), (zep n0 n1 n2 n3 n4 n5 n6 n7 n8 n9 n10 n11 n12 n13))) := by kernel_rfl
theorem e93 (C : CallT) (n0 : Int) (n1 : Int) (n2 : Int) (n3 : Int) (n4 : Int) (n5 : Int) (n6 : Int) (n7 : Int) (n8 : Int) (n9 : Int) (n10 : Int) (n11 : Int) : zO GZ LZ C (.func 93) [.agg [.int .u8 n0, .int .u8 n1, .int .u8 n2, .int .u8 n3, .int .u8 n4, .int .u8 n5], .agg [.int .u8 n6, .int .u8 n7, .int .u8 n8, .int .u8 n9, .int .u8 n10, .int .u8 n11]] [] =
 (C.w (zp GZ LZ C 93 none 2) (zep n0 n1 n2 n3 n4 n5 n6 n7 n8 n9 n10 n11 0 0)).bind fun x0 =>
 match x0.1 with
 | .normal =>
 none
 | .exit x2 =>
 cond (Nat.beq x2 0) (
 (zai ((nth x0.2.t 2))).bind fun x3 =>
 (zg x3).bind fun x4 =>
 (asInt .u8 (x4.1)).bind fun x5 =>
 (zg x4.2).bind fun x6 =>
 (asInt .u8 (x6.1)).bind fun x7 =>
 (zg x6.2).bind fun x8 =>
 (asInt .u8 (x8.1)).bind fun x9 =>
 (zg x8.2).bind fun x10 =>
 (asInt .u8 (x10.1)).bind fun x11 =>
 (zg x10.2).bind fun x12 =>
 (asInt .u8 (x12.1)).bind fun x13 =>
 (zg x12.2).bind fun x14 =>
 (asInt .u8 (x14.1)).bind fun x15 =>
 (zh x14.2).bind fun x16 =>
 (zai ((nth x0.2.t 3))).bind fun x17 =>
 (zg x17).bind fun x18 =>
 (asInt .u8 (x18.1)).bind fun x19 =>
 (zg x18.2).bind fun x20 =>
 (asInt .u8 (x20.1)).bind fun x21 =>
 (zg x20.2).bind fun x22 =>
 (asInt .u8 (x22.1)).bind fun x23 =>
 (zg x22.2).bind fun x24 =>
 (asInt .u8 (x24.1)).bind fun x25 =>
 (zg x24.2).bind fun x26 =>
 (asInt .u8 (x26.1)).bind fun x27 =>
 (zg x26.2).bind fun x28 =>
 (asInt .u8 (x28.1)).bind fun x29 =>
 (zh x28.2).bind fun x30 =>
 (asInt .i64 ((nth x0.2.t 4))).bind fun x31 =>
 (asInt .i64 ((nth x0.2.t 5))).bind fun x32 =>
 some (.int .i64 0, [])) (
 none)
 | .ret =>
 (zai ((nth x0.2.t 2))).bind fun x33 =>
 (zg x33).bind fun x34 =>
 (asInt .u8 (x34.1)).bind fun x35 =>
 (zg x34.2).bind fun x36 =>
 (asInt .u8 (x36.1)).bind fun x37 =>
 (zg x36.2).bind fun x38 =>
 (asInt .u8 (x38.1)).bind fun x39 =>
 (zg x38.2).bind fun x40 =>
 (asInt .u8 (x40.1)).bind fun x41 =>
 (zg x40.2).bind fun x42 =>
 (asInt .u8 (x42.1)).bind fun x43 =>
 (zg x42.2).bind fun x44 =>
 (asInt .u8 (x44.1)).bind fun x45 =>
 (zh x44.2).bind fun x46 =>
 (zai ((nth x0.2.t 3))).bind fun x47 =>
 (zg x47).bind fun x48 =>
 (asInt .u8 (x48.1)).bind fun x49 =>
 (zg x48.2).bind fun x50 =>
 (asInt .u8 (x50.1)).bind fun x51 =>
 (zg x50.2).bind fun x52 =>
 (asInt .u8 (x52.1)).bind fun x53 =>
 (zg x52.2).bind fun x54 =>
 (asInt .u8 (x54.1)).bind fun x55 =>
 (zg x54.2).bind fun x56 =>
 (asInt .u8 (x56.1)).bind fun x57 =>
 (zg x56.2).bind fun x58 =>
 (asInt .u8 (x58.1)).bind fun x59 =>
 (zh x58.2).bind fun x60 =>
 (asInt .i64 ((nth x0.2.t 4))).bind fun x61 =>
 (asInt .i64 ((nth x0.2.t 5))).bind fun x62 =>
 some (.int .i64 x61, []) := by kernel_rfl
def zju (p0 : List (List V)) (p1 : Int) (p2 : Int) (p3 : Int) (p4 : Int) (p5 : Int) (p6 : Int) (p7 : Int) (p8 : Int) (p9 : List (List V)) : St := ⟨(sp 0 64 [(0, .slice .any p0), (3, .box [.int .i64 p1, .int .u8 p2, .int .u8 p3, .int .u8 p4, .int .u8 p5, .int .u8 p6, .int .u8 p7]), (5, .int .i64 p8)]), [.arr true 7 p9]⟩
theorem e95_2 (C : CallT) (r0 : List (List V)) (r1 : List (List V)) (n2 : Int) (n3 : Int) (n4 : Int) (n5 : Int) (n6 : Int) (n7 : Int) (n8 : Int) (n9 : Int) : zp GZ LZ C 95 none 2 (zju r1 n2 n3 n4 n5 n6 n7 n8 n9 r0) =
 cond (decide (n9 < ((r1.length : Nat) : Int))) (
 (zS r1 n9 7).bind fun x0 =>
 (zg x0).bind fun x1 =>
 (asInt .i64 (x1.1)).bind fun x2 =>
 (zg x1.2).bind fun x3 =>
 (asInt .u8 (x3.1)).bind fun x4 =>
 (zg x3.2).bind fun x5 =>
 (asInt .u8 (x5.1)).bind fun x6 =>
 (zg x5.2).bind fun x7 =>
 (asInt .u8 (x7.1)).bind fun x8 =>
 (zg x7.2).bind fun x9 =>
 (asInt .u8 (x9.1)).bind fun x10 =>
 (zg x9.2).bind fun x11 =>
 (asInt .u8 (x11.1)).bind fun x12 =>
 (zg x11.2).bind fun x13 =>
 (asInt .u8 (x13.1)).bind fun x14 =>
 (zh x13.2).bind fun x15 =>
 (C.p (.func 93) [.agg [.int .u8 x4, .int .u8 x6, .int .u8 x8, .int .u8 x10, .int .u8 x12, .int .u8 x14], .agg [.int .u8 n3, .int .u8 n4, .int .u8 n5, .int .u8 n6, .int .u8 n7, .int .u8 n8]]).bind fun x16 =>
 (asInt .i64 (x16)).bind fun x17 =>
 cond (decide (x17 < 0)) (
 some (.normal, (zju r1 n2 n3 n4 n5 n6 n7 n8 (IntKind.wrap .i64 (n9 + 1)) r0))) (
 some ((.exit 0), (zju r1 n2 n3 n4 n5 n6 n7 n8 n9 r0)))) (
 some ((.exit 0), (zju r1 n2 n3 n4 n5 n6 n7 n8 n9 r0))) := by kernel_rfl
theorem e95 (C : CallT) (r0 : List (List V)) (n1 : Int) (n2 : Int) (n3 : Int) (n4 : Int) (n5 : Int) (n6 : Int) (n7 : Int) : zO GZ LZ C (.func 95) [.slice .any r0, .agg [.int .i64 n1, .int .u8 n2, .int .u8 n3, .int .u8 n4, .int .u8 n5, .int .u8 n6, .int .u8 n7]] [] =
 (C.w (zp GZ LZ C 95 none 2) (zju r0 n1 n2 n3 n4 n5 n6 n7 0 [])).bind fun x0 =>
 match x0.1 with
 | .normal =>
 none
 | .exit x2 =>
 cond (Nat.beq x2 0) (
 (zl ((nth x0.2.t 0))).bind fun x3 =>
 (zai ((nth x0.2.t 3))).bind fun x4 =>
 (zg x4).bind fun x5 =>
 (asInt .i64 (x5.1)).bind fun x6 =>
 (zg x5.2).bind fun x7 =>
 (asInt .u8 (x7.1)).bind fun x8 =>
 (zg x7.2).bind fun x9 =>
 (asInt .u8 (x9.1)).bind fun x10 =>
 (zg x9.2).bind fun x11 =>
 (asInt .u8 (x11.1)).bind fun x12 =>
 (zg x11.2).bind fun x13 =>
 (asInt .u8 (x13.1)).bind fun x14 =>
 (zg x13.2).bind fun x15 =>
 (asInt .u8 (x15.1)).bind fun x16 =>
 (zg x15.2).bind fun x17 =>
 (asInt .u8 (x17.1)).bind fun x18 =>
 (zh x17.2).bind fun x19 =>
 (asInt .i64 ((nth x0.2.t 5))).bind fun x20 =>
 (zJ x0.2.h).bind fun x21 =>
 (zaU true 7 x21.1).bind fun x22 =>
 cond (decide (0 ≤ x20)) (
 cond (decide (x20.toNat ≤ x3.length)) (
 cond (zaN 7 ((x3.take x20.toNat).drop 0)) (
 cond (decide ((((x3.take x20.toNat).drop 0).length * 16) ≤ zag)) (
 cond (decide (x20 < ((x3.length : Nat) : Int))) (
 (zS x3 x20 7).bind fun x24 =>
 (zg x24).bind fun x25 =>
 (asInt .i64 (x25.1)).bind fun x26 =>
 (zg x25.2).bind fun x27 =>
 (asInt .u8 (x27.1)).bind fun x28 =>
 (zg x27.2).bind fun x29 =>
 (asInt .u8 (x29.1)).bind fun x30 =>
 (zg x29.2).bind fun x31 =>
 (asInt .u8 (x31.1)).bind fun x32 =>
 (zg x31.2).bind fun x33 =>
 (asInt .u8 (x33.1)).bind fun x34 =>
 (zg x33.2).bind fun x35 =>
 (asInt .u8 (x35.1)).bind fun x36 =>
 (zg x35.2).bind fun x37 =>
 (asInt .u8 (x37.1)).bind fun x38 =>
 (zh x37.2).bind fun x39 =>
 (C.p (.func 93) [.agg [.int .u8 x28, .int .u8 x30, .int .u8 x32, .int .u8 x34, .int .u8 x36, .int .u8 x38], .agg [.int .u8 x8, .int .u8 x10, .int .u8 x12, .int .u8 x14, .int .u8 x16, .int .u8 x18]]).bind fun x40 =>
 (asInt .i64 (x40)).bind fun x41 =>
 cond (x41 == 0) (
 (zS x3 x20 7).bind fun x43 =>
 (zg x43).bind fun x44 =>
 (asInt .i64 (x44.1)).bind fun x45 =>
 (zg x44.2).bind fun x46 =>
 (asInt .u8 (x46.1)).bind fun x47 =>
 (zg x46.2).bind fun x48 =>
 (asInt .u8 (x48.1)).bind fun x49 =>
 (zg x48.2).bind fun x50 =>
 (asInt .u8 (x50.1)).bind fun x51 =>
 (zg x50.2).bind fun x52 =>
 (asInt .u8 (x52.1)).bind fun x53 =>
 (zg x52.2).bind fun x54 =>
 (asInt .u8 (x54.1)).bind fun x55 =>
 (zg x54.2).bind fun x56 =>
 (asInt .u8 (x56.1)).bind fun x57 =>
 (zh x56.2).bind fun x58 =>
 cond (decide (((x3.take x20.toNat).drop 0).length = ((x3.take x20.toNat).drop 0).length)) (
 cond (decide (((((x3.take x20.toNat).drop 0).length + 1) * 16) ≤ zag)) (
 cond (decide (0 ≤ (IntKind.wrap .i64 (x20 + 1)))) (
 cond (decide ((IntKind.wrap .i64 (x20 + 1)).toNat ≤ x3.length)) (
 cond (zaN 7 x3) (
 cond (zaN 7 ((x3.take x3.length).drop (IntKind.wrap .i64 (x20 + 1)).toNat)) (
 cond (decide ((((x3.take x20.toNat).drop 0).length + 1) = (List.append ((x3.take x20.toNat).drop 0) [[.int .i64 (IntKind.wrap .i64 (x6 + x45)), .int .u8 x8, .int .u8 x10, .int .u8 x12, .int .u8 x14, .int .u8 x16, .int .u8 x18]]).length)) (
 cond (decide ((((List.append ((x3.take x20.toNat).drop 0) [[.int .i64 (IntKind.wrap .i64 (x6 + x45)), .int .u8 x8, .int .u8 x10, .int .u8 x12, .int .u8 x14, .int .u8 x16, .int .u8 x18]]).length + ((x3.take x3.length).drop (IntKind.wrap .i64 (x20 + 1)).toNat).length) * 16) ≤ zag)) (
 (zak [.arr true 7 x22, .arr true 7 (List.append (List.append ((x3.take x20.toNat).drop 0) [[.int .i64 (IntKind.wrap .i64 (x6 + x45)), .int .u8 x8, .int .u8 x10, .int .u8 x12, .int .u8 x14, .int .u8 x16, .int .u8 x18]]) ((x3.take x3.length).drop (IntKind.wrap .i64 (x20 + 1)).toNat))] 1 ((((x3.take x20.toNat).drop 0).length + 1) + ((x3.take x3.length).drop (IntKind.wrap .i64 (x20 + 1)).toNat).length)).bind fun x59 =>
 some (.slice .any x59, [.arr true 7 x22, .arr false 7 (List.append (List.append ((x3.take x20.toNat).drop 0) [[.int .i64 (IntKind.wrap .i64 (x6 + x45)), .int .u8 x8, .int .u8 x10, .int .u8 x12, .int .u8 x14, .int .u8 x16, .int .u8 x18]]) ((x3.take x3.length).drop (IntKind.wrap .i64 (x20 + 1)).toNat))])) (
 none)) (
 none)) (
 none)) (
 none)) (
 none)) (
 none)) (
 none)) (
 none)) (
 cond (decide (((x3.take x20.toNat).drop 0).length = ((x3.take x20.toNat).drop 0).length)) (
 cond (decide (((((x3.take x20.toNat).drop 0).length + 1) * 16) ≤ zag)) (
 cond (decide (0 ≤ x20)) (
 cond (decide (x20.toNat ≤ x3.length)) (
 cond (zaN 7 x3) (
 cond (zaN 7 ((x3.take x3.length).drop x20.toNat)) (
 cond (decide ((((x3.take x20.toNat).drop 0).length + 1) = (List.append ((x3.take x20.toNat).drop 0) [[.int .i64 x6, .int .u8 x8, .int .u8 x10, .int .u8 x12, .int .u8 x14, .int .u8 x16, .int .u8 x18]]).length)) (
 cond (decide ((((List.append ((x3.take x20.toNat).drop 0) [[.int .i64 x6, .int .u8 x8, .int .u8 x10, .int .u8 x12, .int .u8 x14, .int .u8 x16, .int .u8 x18]]).length + ((x3.take x3.length).drop x20.toNat).length) * 16) ≤ zag)) (
 (zak [.arr true 7 x22, .arr true 7 (List.append (List.append ((x3.take x20.toNat).drop 0) [[.int .i64 x6, .int .u8 x8, .int .u8 x10, .int .u8 x12, .int .u8 x14, .int .u8 x16, .int .u8 x18]]) ((x3.take x3.length).drop x20.toNat))] 1 ((((x3.take x20.toNat).drop 0).length + 1) + ((x3.take x3.length).drop x20.toNat).length)).bind fun x42 =>
 some (.slice .any x42, [.arr true 7 x22, .arr false 7 (List.append (List.append ((x3.take x20.toNat).drop 0) [[.int .i64 x6, .int .u8 x8, .int .u8 x10, .int .u8 x12, .int .u8 x14, .int .u8 x16, .int .u8 x18]]) ((x3.take x3.length).drop x20.toNat))])) (
 none)) (
 none)) (
 none)) (
 none)) (
 none)) (
 none)) (
 none)) (
 none))) (
 cond (decide (((x3.take x20.toNat).drop 0).length = ((x3.take x20.toNat).drop 0).length)) (
 cond (decide (((((x3.take x20.toNat).drop 0).length + 1) * 16) ≤ zag)) (
 cond (decide (0 ≤ x20)) (
 cond (decide (x20.toNat ≤ x3.length)) (
 cond (zaN 7 x3) (
 cond (zaN 7 ((x3.take x3.length).drop x20.toNat)) (
 cond (decide ((((x3.take x20.toNat).drop 0).length + 1) = (List.append ((x3.take x20.toNat).drop 0) [[.int .i64 x6, .int .u8 x8, .int .u8 x10, .int .u8 x12, .int .u8 x14, .int .u8 x16, .int .u8 x18]]).length)) (
 cond (decide ((((List.append ((x3.take x20.toNat).drop 0) [[.int .i64 x6, .int .u8 x8, .int .u8 x10, .int .u8 x12, .int .u8 x14, .int .u8 x16, .int .u8 x18]]).length + ((x3.take x3.length).drop x20.toNat).length) * 16) ≤ zag)) (
 (zak [.arr true 7 x22, .arr true 7 (List.append (List.append ((x3.take x20.toNat).drop 0) [[.int .i64 x6, .int .u8 x8, .int .u8 x10, .int .u8 x12, .int .u8 x14, .int .u8 x16, .int .u8 x18]]) ((x3.take x3.length).drop x20.toNat))] 1 ((((x3.take x20.toNat).drop 0).length + 1) + ((x3.take x3.length).drop x20.toNat).length)).bind fun x23 =>
 some (.slice .any x23, [.arr true 7 x22, .arr false 7 (List.append (List.append ((x3.take x20.toNat).drop 0) [[.int .i64 x6, .int .u8 x8, .int .u8 x10, .int .u8 x12, .int .u8 x14, .int .u8 x16, .int .u8 x18]]) ((x3.take x3.length).drop x20.toNat))])) (
 none)) (
 none)) (
 none)) (
 none)) (
 none)) (
 none)) (
 none)) (
 none))) (
 none)) (
 none)) (
 none)) (
 none)) (
 none)
 | .ret =>
 none := by kernel_rfl
def zcq (p0 : List (List V)) (p1 : Int) (p2 : Int) (p3 : Int) (p4 : List (List V)) (p5 : Int) (p6 : Int) (p7 : Nat) (p8 : Int) (p9 : List (List V)) : St := ⟨(sp 0 93 [(0, .slice .any p0), (1, .int .i64 p1), (2, .int .i64 p2), (3, .int .i64 p3), (8, .slice .any p4), (9, .box [.int .i64 p5, .int .i64 p6]), (10, .arr 0 p7 7), (11, .int .i64 p8)]), [.arr true 7 p9]⟩
def zkr (p0 : List (List V)) (p1 : Int) (p2 : Int) (p3 : Int) (p4 : Int) (p5 : Int) (p6 : Nat) (p7 : Int) (p8 : List (List V)) : St := ⟨(sp 0 93 [(0, .slice .any p0), (1, .int .i64 p1), (2, .int .i64 p2), (3, .int .i64 p3), (8, .slice .nil []), (9, .box [.int .i64 p4, .int .i64 p5]), (10, .arr 0 p6 7), (11, .int .i64 p7)]), [.arr true 7 p8]⟩
theorem zqs (C : CallT) (r0 : List (List V)) (r1 : List (List V)) (n2 : Int) (n3 : Int) (n4 : Int) (r5 : List (List V)) (n6 : Int) (n7 : Int) (n8 : Int) : zp GZ LZ C 96 none 3 (zcq r1 n2 n3 n4 r5 n6 n7 r0.length n8 r0) =
 cond (decide (n8 < ((r1.length : Nat) : Int))) (
 (zS r1 n8 7).bind fun x0 =>
 (zg x0).bind fun x1 =>
 (asInt .i64 (x1.1)).bind fun x2 =>
 (zg x1.2).bind fun x3 =>
 (asInt .u8 (x3.1)).bind fun x4 =>
 (zg x3.2).bind fun x5 =>
 (asInt .u8 (x5.1)).bind fun x6 =>
 (zg x5.2).bind fun x7 =>
 (asInt .u8 (x7.1)).bind fun x8 =>
 (zg x7.2).bind fun x9 =>
 (asInt .u8 (x9.1)).bind fun x10 =>
 (zg x9.2).bind fun x11 =>
 (asInt .u8 (x11.1)).bind fun x12 =>
 (zg x11.2).bind fun x13 =>
 (asInt .u8 (x13.1)).bind fun x14 =>
 (zh x13.2).bind fun x15 =>
 (C.p (.func 89) [.int .i64 x2]).bind fun x16 =>
 (asBool (x16)).bind fun x17 =>
 cond (!x17) (
 (C.p (.func 48) []).bind fun x164 =>
 (zi (x164)).bind fun x165 =>
 (zg x165).bind fun x166 =>
 (asInt .i64 (x166.1)).bind fun x167 =>
 (zg x166.2).bind fun x168 =>
 (asInt .i64 (x168.1)).bind fun x169 =>
 (zh x168.2).bind fun x170 =>
 some (.ret, (zkr r1 n2 n3 n4 x167 x169 r0.length n8 r0))) (
 (zS r1 n8 7).bind fun x18 =>
 (zg x18).bind fun x19 =>
 (asInt .i64 (x19.1)).bind fun x20 =>
 (zg x19.2).bind fun x21 =>
 (asInt .u8 (x21.1)).bind fun x22 =>
 (zg x21.2).bind fun x23 =>
 (asInt .u8 (x23.1)).bind fun x24 =>
 (zg x23.2).bind fun x25 =>
 (asInt .u8 (x25.1)).bind fun x26 =>
 (zg x25.2).bind fun x27 =>
 (asInt .u8 (x27.1)).bind fun x28 =>
 (zg x27.2).bind fun x29 =>
 (asInt .u8 (x29.1)).bind fun x30 =>
 (zg x29.2).bind fun x31 =>
 (asInt .u8 (x31.1)).bind fun x32 =>
 (zh x31.2).bind fun x33 =>
 cond (x20 == 0) (
 some (.normal, (zcq r1 n2 n3 n4 r5 n6 n7 r0.length (IntKind.wrap .i64 (n8 + 1)) r0))) (
 (zS r1 n8 7).bind fun x34 =>
 (zg x34).bind fun x35 =>
 (asInt .i64 (x35.1)).bind fun x36 =>
 (zg x35.2).bind fun x37 =>
 (asInt .u8 (x37.1)).bind fun x38 =>
 (zg x37.2).bind fun x39 =>
 (asInt .u8 (x39.1)).bind fun x40 =>
 (zg x39.2).bind fun x41 =>
 (asInt .u8 (x41.1)).bind fun x42 =>
 (zg x41.2).bind fun x43 =>
 (asInt .u8 (x43.1)).bind fun x44 =>
 (zg x43.2).bind fun x45 =>
 (asInt .u8 (x45.1)).bind fun x46 =>
 (zg x45.2).bind fun x47 =>
 (asInt .u8 (x47.1)).bind fun x48 =>
 (zh x47.2).bind fun x49 =>
 (C.p (.func 88) [.agg [.int .u8 x38, .int .u8 x40, .int .u8 x42, .int .u8 x44, .int .u8 x46, .int .u8 x48]]).bind fun x50 =>
 (asInt .i64 (x50)).bind fun x51 =>
 cond (decide (x51 ≤ n2)) (
 (zS r1 n8 7).bind fun x91 =>
 (zg x91).bind fun x92 =>
 (asInt .i64 (x92.1)).bind fun x93 =>
 (zg x92.2).bind fun x94 =>
 (asInt .u8 (x94.1)).bind fun x95 =>
 (zg x94.2).bind fun x96 =>
 (asInt .u8 (x96.1)).bind fun x97 =>
 (zg x96.2).bind fun x98 =>
 (asInt .u8 (x98.1)).bind fun x99 =>
 (zg x98.2).bind fun x100 =>
 (asInt .u8 (x100.1)).bind fun x101 =>
 (zg x100.2).bind fun x102 =>
 (asInt .u8 (x102.1)).bind fun x103 =>
 (zg x102.2).bind fun x104 =>
 (asInt .u8 (x104.1)).bind fun x105 =>
 (zh x104.2).bind fun x106 =>
 (C.p (.func 88) [.agg [.int .u8 x95, .int .u8 x97, .int .u8 x99, .int .u8 x101, .int .u8 x103, .int .u8 x105]]).bind fun x107 =>
 (asInt .i64 (x107)).bind fun x108 =>
 cond (decide (x108 ≤ 6)) (
 (zS r1 n8 7).bind fun x148 =>
 (zg x148).bind fun x149 =>
 (asInt .i64 (x149.1)).bind fun x150 =>
 (zg x149.2).bind fun x151 =>
 (asInt .u8 (x151.1)).bind fun x152 =>
 (zg x151.2).bind fun x153 =>
 (asInt .u8 (x153.1)).bind fun x154 =>
 (zg x153.2).bind fun x155 =>
 (asInt .u8 (x155.1)).bind fun x156 =>
 (zg x155.2).bind fun x157 =>
 (asInt .u8 (x157.1)).bind fun x158 =>
 (zg x157.2).bind fun x159 =>
 (asInt .u8 (x159.1)).bind fun x160 =>
 (zg x159.2).bind fun x161 =>
 (asInt .u8 (x161.1)).bind fun x162 =>
 (zh x161.2).bind fun x163 =>
 cond (decide (r0.length = r0.length)) (
 cond (decide (((r0.length + 1) * 16) ≤ zag)) (
 some (.normal, (zcq r1 n2 n3 n4 r5 n6 n7 (r0.length + 1) (IntKind.wrap .i64 (n8 + 1)) (List.append r0 [[.int .i64 x150, .int .u8 x152, .int .u8 x154, .int .u8 x156, .int .u8 x158, .int .u8 x160, .int .u8 x162]])))) (
 none)) (
 none)) (
 (zS r1 n8 7).bind fun x109 =>
 (zg x109).bind fun x110 =>
 (asInt .i64 (x110.1)).bind fun x111 =>
 (zg x110.2).bind fun x112 =>
 (asInt .u8 (x112.1)).bind fun x113 =>
 (zg x112.2).bind fun x114 =>
 (asInt .u8 (x114.1)).bind fun x115 =>
 (zg x114.2).bind fun x116 =>
 (asInt .u8 (x116.1)).bind fun x117 =>
 (zg x116.2).bind fun x118 =>
 (asInt .u8 (x118.1)).bind fun x119 =>
 (zg x118.2).bind fun x120 =>
 (asInt .u8 (x120.1)).bind fun x121 =>
 (zg x120.2).bind fun x122 =>
 (asInt .u8 (x122.1)).bind fun x123 =>
 (zh x122.2).bind fun x124 =>
 (zS r1 n8 7).bind fun x125 =>
 (zg x125).bind fun x126 =>
 (asInt .i64 (x126.1)).bind fun x127 =>
 (zg x126.2).bind fun x128 =>
 (asInt .u8 (x128.1)).bind fun x129 =>
 (zg x128.2).bind fun x130 =>
 (asInt .u8 (x130.1)).bind fun x131 =>
 (zg x130.2).bind fun x132 =>
 (asInt .u8 (x132.1)).bind fun x133 =>
 (zg x132.2).bind fun x134 =>
 (asInt .u8 (x134.1)).bind fun x135 =>
 (zg x134.2).bind fun x136 =>
 (asInt .u8 (x136.1)).bind fun x137 =>
 (zg x136.2).bind fun x138 =>
 (asInt .u8 (x138.1)).bind fun x139 =>
 (zh x138.2).bind fun x140 =>
 (C.p (.func 104) [.int .i64 x111, .agg [.int .u8 x129, .int .u8 x131, .int .u8 x133, .int .u8 x135, .int .u8 x137, .int .u8 x139]]).bind fun x141 =>
 (zy (x141)).bind fun x142 =>
 (zg x142).bind fun x143 =>
 (asInt .i64 (x143.1)).bind fun x144 =>
 (zg x143.2).bind fun x145 =>
 (asInt .i64 (x145.1)).bind fun x146 =>
 (zh x145.2).bind fun x147 =>
 some (.normal, (zcq r1 n2 (IntKind.wrap .i64 (n3 + x144)) (IntKind.wrap .i64 (n4 + x146)) r5 n6 n7 r0.length (IntKind.wrap .i64 (n8 + 1)) r0)))) (
 (zS r1 n8 7).bind fun x52 =>
 (zg x52).bind fun x53 =>
 (asInt .i64 (x53.1)).bind fun x54 =>
 (zg x53.2).bind fun x55 =>
 (asInt .u8 (x55.1)).bind fun x56 =>
 (zg x55.2).bind fun x57 =>
 (asInt .u8 (x57.1)).bind fun x58 =>
 (zg x57.2).bind fun x59 =>
 (asInt .u8 (x59.1)).bind fun x60 =>
 (zg x59.2).bind fun x61 =>
 (asInt .u8 (x61.1)).bind fun x62 =>
 (zg x61.2).bind fun x63 =>
 (asInt .u8 (x63.1)).bind fun x64 =>
 (zg x63.2).bind fun x65 =>
 (asInt .u8 (x65.1)).bind fun x66 =>
 (zh x65.2).bind fun x67 =>
 (zS r1 n8 7).bind fun x68 =>
 (zg x68).bind fun x69 =>
 (asInt .i64 (x69.1)).bind fun x70 =>
 (zg x69.2).bind fun x71 =>
 (asInt .u8 (x71.1)).bind fun x72 =>
 (zg x71.2).bind fun x73 =>
 (asInt .u8 (x73.1)).bind fun x74 =>
 (zg x73.2).bind fun x75 =>
 (asInt .u8 (x75.1)).bind fun x76 =>
 (zg x75.2).bind fun x77 =>
 (asInt .u8 (x77.1)).bind fun x78 =>
 (zg x77.2).bind fun x79 =>
 (asInt .u8 (x79.1)).bind fun x80 =>
 (zg x79.2).bind fun x81 =>
 (asInt .u8 (x81.1)).bind fun x82 =>
 (zh x81.2).bind fun x83 =>
 (C.p (.func 104) [.int .i64 x54, .agg [.int .u8 x72, .int .u8 x74, .int .u8 x76, .int .u8 x78, .int .u8 x80, .int .u8 x82]]).bind fun x84 =>
 (zy (x84)).bind fun x85 =>
 (zg x85).bind fun x86 =>
 (asInt .i64 (x86.1)).bind fun x87 =>
 (zg x86.2).bind fun x88 =>
 (asInt .i64 (x88.1)).bind fun x89 =>
 (zh x88.2).bind fun x90 =>
 some (.normal, (zcq r1 n2 (IntKind.wrap .i64 (n3 + x87)) (IntKind.wrap .i64 (n4 + x89)) r5 n6 n7 r0.length (IntKind.wrap .i64 (n8 + 1)) r0)))))) (
 some ((.exit 0), (zcq r1 n2 n3 n4 r5 n6 n7 r0.length n8 r0))) := by kernel_rfl
theorem e96 (C : CallT) (r0 : List (List V)) (n1 : Int) (n2 : Int) (n3 : Int) : zO GZ LZ C (.func 96) [.slice .any r0, .int .i64 n1, .int .i64 n2, .int .i64 n3] [] =
 (C.w (zp GZ LZ C 96 none 3) (zcq r0 n1 n2 n3 [] 0 0 0 0 [])).bind fun x0 =>
 match x0.1 with
 | .normal =>
 none
 | .exit x2 =>
 cond (Nat.beq x2 0) (
 (zl ((nth x0.2.t 0))).bind fun x3 =>
 (asInt .i64 ((nth x0.2.t 1))).bind fun x4 =>
 (asInt .i64 ((nth x0.2.t 2))).bind fun x5 =>
 (asInt .i64 ((nth x0.2.t 3))).bind fun x6 =>
 (zl ((nth x0.2.t 8))).bind fun x7 =>
 (zai ((nth x0.2.t 9))).bind fun x8 =>
 (zg x8).bind fun x9 =>
 (asInt .i64 (x9.1)).bind fun x10 =>
 (zg x9.2).bind fun x11 =>
 (asInt .i64 (x11.1)).bind fun x12 =>
 (zh x11.2).bind fun x13 =>
 (zcn 0 7 ((nth x0.2.t 10))).bind fun x14 =>
 (asInt .i64 ((nth x0.2.t 11))).bind fun x15 =>
 (zJ x0.2.h).bind fun x16 =>
 (zaU true 7 x16.1).bind fun x17 =>
 (C.p (.func 78) [.int .i64 x5, .int .i64 x6]).bind fun x18 =>
 (zi (x18)).bind fun x19 =>
 (zg x19).bind fun x20 =>
 (asInt .i64 (x20.1)).bind fun x21 =>
 (zg x20.2).bind fun x22 =>
 (asInt .i64 (x22.1)).bind fun x23 =>
 (zh x22.2).bind fun x24 =>
 cond (decide (((x14 : Nat) : Int) > 100)) (
 (C.p (.func 48) []).bind fun x34 =>
 (zi (x34)).bind fun x35 =>
 (zg x35).bind fun x36 =>
 (asInt .i64 (x36.1)).bind fun x37 =>
 (zg x36.2).bind fun x38 =>
 (asInt .i64 (x38.1)).bind fun x39 =>
 (zh x38.2).bind fun x40 =>
 some (.tuple [.slice .nil [], .agg [.int .i64 x37, .int .i64 x39]], [.arr true 7 x17])) (
 (C.p (.func 38) [.agg [.int .i64 x21, .int .i64 x23]]).bind fun x25 =>
 (asBool (x25)).bind fun x26 =>
 cond x26 (
 (C.p (.func 48) []).bind fun x27 =>
 (zi (x27)).bind fun x28 =>
 (zg x28).bind fun x29 =>
 (asInt .i64 (x29.1)).bind fun x30 =>
 (zg x29.2).bind fun x31 =>
 (asInt .i64 (x31.1)).bind fun x32 =>
 (zh x31.2).bind fun x33 =>
 some (.tuple [.slice .nil [], .agg [.int .i64 x30, .int .i64 x32]], [.arr true 7 x17])) (
 some (.tuple [.arr 0 x14 7, .agg [.int .i64 x21, .int .i64 x23]], [.arr true 7 x17])))) (
 none)
 | .ret =>
 (zl ((nth x0.2.t 0))).bind fun x41 =>
 (asInt .i64 ((nth x0.2.t 1))).bind fun x42 =>
 (asInt .i64 ((nth x0.2.t 2))).bind fun x43 =>
 (asInt .i64 ((nth x0.2.t 3))).bind fun x44 =>
 (zl ((nth x0.2.t 8))).bind fun x45 =>
 (zai ((nth x0.2.t 9))).bind fun x46 =>
 (zg x46).bind fun x47 =>
 (asInt .i64 (x47.1)).bind fun x48 =>
 (zg x47.2).bind fun x49 =>
 (asInt .i64 (x49.1)).bind fun x50 =>
 (zh x49.2).bind fun x51 =>
 (zcn 0 7 ((nth x0.2.t 10))).bind fun x52 =>
 (asInt .i64 ((nth x0.2.t 11))).bind fun x53 =>
 (zJ x0.2.h).bind fun x54 =>
 (zaU true 7 x54.1).bind fun x55 =>
 some (.tuple [.slice .any x45, .agg [.int .i64 x48, .int .i64 x50]], [.arr true 7 x55]) := by kernel_rfl
def zeh (p0 : Int) (p1 : Int) (p2 : Int) (p3 : Int) (p4 : Int) (p5 : Int) (p6 : Int) (p7 : Int) (p8 : Int) (p9 : Int) : St := ⟨(sp 0 33 [(0, .int .i64 p0), (3, .box [.int .u8 p1, .int .u8 p2, .int .u8 p3, .int .u8 p4, .int .u8 p5, .int .u8 p6]), (4, .int .i64 p7), (5, .int .i64 p8), (6, .int .i64 p9)]), []⟩
theorem zrQ (C : CallT) (n0 : Int) (n1 : Int) (n2 : Int) (n3 : Int) (n4 : Int) (n5 : Int) (n6 : Int) (n7 : Int) (n8 : Int) (n9 : Int) : zp GZ LZ C 104 none 4 (zeh n0 n1 n2 n3 n4 n5 n6 n7 n8 n9) =
 cond (decide (n9 < 6)) (
 cond (decide (0 ≤ n9)) (
 cond (decide (n9.toNat < 6)) (
 (za5 [n1, n2, n3, n4, n5, n6] (n9.toNat * 1)).bind fun x0 =>
 cond ((Int.tmod x0 2) == 1) (
 some (.ret, (zeh n0 n1 n2 n3 n4 n5 n6 (if (IntKind.wrap .i64 (0 - n0)) < n0 then (IntKind.wrap .i64 (0 - n0)) else n0) (if (IntKind.wrap .i64 (0 - n0)) > n0 then (IntKind.wrap .i64 (0 - n0)) else n0) n9))) (
 some (.normal, (zeh n0 n1 n2 n3 n4 n5 n6 n7 n8 (IntKind.wrap .i64 (n9 + 1)))))) (
 none)) (
 none)) (
 some ((.exit 0), (zeh n0 n1 n2 n3 n4 n5 n6 n7 n8 n9))) := by kernel_rfl
theorem e104 (C : CallT) (n0 : Int) (n1 : Int) (n2 : Int) (n3 : Int) (n4 : Int) (n5 : Int) (n6 : Int) : zO GZ LZ C (.func 104) [.int .i64 n0, .agg [.int .u8 n1, .int .u8 n2, .int .u8 n3, .int .u8 n4, .int .u8 n5, .int .u8 n6]] [] =
 (C.p (.func 88) [.agg [.int .u8 n1, .int .u8 n2, .int .u8 n3, .int .u8 n4, .int .u8 n5, .int .u8 n6]]).bind fun x0 =>
 (asInt .i64 (x0)).bind fun x1 =>
 cond (x1 == 0) (
 some (.tuple [.int .i64 n0, .int .i64 n0], [])) (
 (C.w (zp GZ LZ C 104 none 4) (zeh n0 n1 n2 n3 n4 n5 n6 0 0 0)).bind fun x2 =>
 match x2.1 with
 | .normal =>
 none
 | .exit x4 =>
 cond (Nat.beq x4 0) (
 (asInt .i64 ((nth x2.2.t 0))).bind fun x5 =>
 (zai ((nth x2.2.t 3))).bind fun x6 =>
 (zg x6).bind fun x7 =>
 (asInt .u8 (x7.1)).bind fun x8 =>
 (zg x7.2).bind fun x9 =>
 (asInt .u8 (x9.1)).bind fun x10 =>
 (zg x9.2).bind fun x11 =>
 (asInt .u8 (x11.1)).bind fun x12 =>
 (zg x11.2).bind fun x13 =>
 (asInt .u8 (x13.1)).bind fun x14 =>
 (zg x13.2).bind fun x15 =>
 (asInt .u8 (x15.1)).bind fun x16 =>
 (zg x15.2).bind fun x17 =>
 (asInt .u8 (x17.1)).bind fun x18 =>
 (zh x17.2).bind fun x19 =>
 (asInt .i64 ((nth x2.2.t 4))).bind fun x20 =>
 (asInt .i64 ((nth x2.2.t 5))).bind fun x21 =>
 (asInt .i64 ((nth x2.2.t 6))).bind fun x22 =>
 some (.tuple [.int .i64 (if 0 < x5 then 0 else x5), .int .i64 (if 0 > x5 then 0 else x5)], [])) (
 none)
 | .ret =>
 (asInt .i64 ((nth x2.2.t 0))).bind fun x23 =>
 (zai ((nth x2.2.t 3))).bind fun x24 =>
 (zg x24).bind fun x25 =>
 (asInt .u8 (x25.1)).bind fun x26 =>
 (zg x25.2).bind fun x27 =>
 (asInt .u8 (x27.1)).bind fun x28 =>
 (zg x27.2).bind fun x29 =>
 (asInt .u8 (x29.1)).bind fun x30 =>
 (zg x29.2).bind fun x31 =>
 (asInt .u8 (x31.1)).bind fun x32 =>
 (zg x31.2).bind fun x33 =>
 (asInt .u8 (x33.1)).bind fun x34 =>
 (zg x33.2).bind fun x35 =>
 (asInt .u8 (x35.1)).bind fun x36 =>
 (zh x35.2).bind fun x37 =>
 (asInt .i64 ((nth x2.2.t 4))).bind fun x38 =>
 (asInt .i64 ((nth x2.2.t 5))).bind fun x39 =>
 (asInt .i64 ((nth x2.2.t 6))).bind fun x40 =>
 some (.tuple [.int .i64 x38, .int .i64 x39], [])) := by kernel_rfl
theorem e108 (C : CallT) (n0 : Int) (n1 : Int) (n2 : Int) : zO GZ LZ C (.func 108) [.agg [.int .i64 n0, .int .i64 n1], .int .i64 n2] [] =
 cond (decide (n2 ≤ 1)) (
 some (.agg [.int .i64 n0, .int .i64 n1], [])) (
 cond ((Int.tmod n2 2) == 0) (
 (C.p (.func 108) [.agg [.int .i64 n0, .int .i64 n1], .int .i64 (IntKind.wrap .i64 (Int.tdiv n2 2))]).bind fun x14 =>
 (zi (x14)).bind fun x15 =>
 (zg x15).bind fun x16 =>
 (asInt .i64 (x16.1)).bind fun x17 =>
 (zg x16.2).bind fun x18 =>
 (asInt .i64 (x18.1)).bind fun x19 =>
 (zh x18.2).bind fun x20 =>
 (C.p (.func 117) [.agg [.int .i64 x17, .int .i64 x19]]).bind fun x21 =>
 (zi (x21)).bind fun x22 =>
 (zg x22).bind fun x23 =>
 (asInt .i64 (x23.1)).bind fun x24 =>
 (zg x23.2).bind fun x25 =>
 (asInt .i64 (x25.1)).bind fun x26 =>
 (zh x25.2).bind fun x27 =>
 some (.agg [.int .i64 x24, .int .i64 x26], [])) (
 (C.p (.func 108) [.agg [.int .i64 n0, .int .i64 n1], .int .i64 (IntKind.wrap .i64 (n2 - 1))]).bind fun x0 =>
 (zi (x0)).bind fun x1 =>
 (zg x1).bind fun x2 =>
 (asInt .i64 (x2.1)).bind fun x3 =>
 (zg x2.2).bind fun x4 =>
 (asInt .i64 (x4.1)).bind fun x5 =>
 (zh x4.2).bind fun x6 =>
 (C.p (.func 67) [.agg [.int .i64 x3, .int .i64 x5], .agg [.int .i64 n0, .int .i64 n1]]).bind fun x7 =>
 (zi (x7)).bind fun x8 =>
 (zg x8).bind fun x9 =>
 (asInt .i64 (x9.1)).bind fun x10 =>
 (zg x9.2).bind fun x11 =>
 (asInt .i64 (x11.1)).bind fun x12 =>
 (zh x11.2).bind fun x13 =>
 some (.agg [.int .i64 x10, .int .i64 x12], []))) := by kernel_rfl
end Go.Ab
namespace Go.Ab
set_option maxHeartbeats 2000000
set_option maxRecDepth 100000
end Go.Ab
