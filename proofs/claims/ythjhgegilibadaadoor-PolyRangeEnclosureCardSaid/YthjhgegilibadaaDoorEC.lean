/- What one call of each function does, written out: by evaluation; conditions: none. -/
import Derived.KernelRfl
import Derived.Test.YthjhgegilibadaaDoorT
namespace Go.Ab
set_option linter.unusedVariables false
set_option linter.unusedSimpArgs false
set_option linter.unusedVariables false
set_option maxHeartbeats 2000000
set_option maxRecDepth 100000
theorem e12 (C : CallT) (n0 : Int) (n1 : Int) : run1 GD LD C (.func 12) [.agg [.int .i64 n0, .int .i64 n1]] [] =
 (C.p (.func 50) [.agg [.int .i64 n0, .int .i64 n1]]).bind fun x0 =>
 (asBool (x0)).bind fun x1 =>
 cond x1 (
 some (.agg [.int .i64 n0, .int .i64 n1], [])) (
 cond ((IntKind.wrap .i64 (((BitVec.ofInt (IntKind.bits .i64) n0 &&& BitVec.ofInt (IntKind.bits .i64) 31).toNat : Nat) : Int)) == 7) (
 (C.p (.func 51) []).bind fun x9 =>
 (asCells (x9)).bind fun x10 =>
 (uncons x10).bind fun x11 =>
 (asInt .i64 (x11.1)).bind fun x12 =>
 (uncons x11.2).bind fun x13 =>
 (asInt .i64 (x13.1)).bind fun x14 =>
 (isNil x13.2).bind fun x15 =>
 some (.agg [.int .i64 x12, .int .i64 x14], [])) (
 (C.p (.func 38) [.agg [.int .i64 n0, .int .i64 n1]]).bind fun x2 =>
 (asCells (x2)).bind fun x3 =>
 (uncons x3).bind fun x4 =>
 (asInt .i64 (x4.1)).bind fun x5 =>
 (uncons x4.2).bind fun x6 =>
 (asInt .i64 (x6.1)).bind fun x7 =>
 (isNil x6.2).bind fun x8 =>
 some (.agg [.int .i64 x5, .int .i64 x7], []))) := by kernel_rfl
theorem e22 (C : CallT) (n0 : Int) (n1 : Int) (n2 : Int) (n3 : Int) : run1 GD LD C (.func 22) [.agg [.int .i64 n0, .int .i64 n1], .agg [.int .i64 n2, .int .i64 n3]] [] =
 cond (n0 == n2) (
 some (.bool (n1 == n3), [])) (
 some (.bool false, [])) := by kernel_rfl
theorem e34 (C : CallT) (n0 : Int) (n1 : Int) : run1 GD LD C (.func 34) [.agg [.int .i64 n0, .int .i64 n1]] [] =
 cond (n0 == (-2147483648)) (
 some (.bool (n1 == 2147483648), [])) (
 some (.bool false, [])) := by kernel_rfl
theorem e38 (C : CallT) (n0 : Int) (n1 : Int) : run1 GD LD C (.func 38) [.agg [.int .i64 n0, .int .i64 n1]] [] =
 some (.agg [.int .i64 (if (Int.tmod n1 16777216) < (Int.tmod n0 16777216) then (Int.tmod n1 16777216) else (Int.tmod n0 16777216)), .int .i64 (if (Int.tmod n1 16777216) > (Int.tmod n0 16777216) then (Int.tmod n1 16777216) else (Int.tmod n0 16777216))], []) := by kernel_rfl
theorem e39 (C : CallT) (n0 : Int) (n1 : Int) : run1 GD LD C (.func 39) [.int .i64 n0, .int .i64 n1] [] =
 (C.p (.func 46) [.int .i64 n0]).bind fun x0 =>
 (asBool (x0)).bind fun x1 =>
 cond (!x1) (
 (C.p (.func 51) []).bind fun x11 =>
 (asCells (x11)).bind fun x12 =>
 (uncons x12).bind fun x13 =>
 (asInt .i64 (x13.1)).bind fun x14 =>
 (uncons x13.2).bind fun x15 =>
 (asInt .i64 (x15.1)).bind fun x16 =>
 (isNil x15.2).bind fun x17 =>
 some (.agg [.int .i64 x14, .int .i64 x16], [])) (
 (C.p (.func 46) [.int .i64 n1]).bind fun x2 =>
 (asBool (x2)).bind fun x3 =>
 cond (!x3) (
 (C.p (.func 51) []).bind fun x4 =>
 (asCells (x4)).bind fun x5 =>
 (uncons x5).bind fun x6 =>
 (asInt .i64 (x6.1)).bind fun x7 =>
 (uncons x6.2).bind fun x8 =>
 (asInt .i64 (x8.1)).bind fun x9 =>
 (isNil x8.2).bind fun x10 =>
 some (.agg [.int .i64 x7, .int .i64 x9], [])) (
 some (.agg [.int .i64 n0, .int .i64 n1], []))) := by kernel_rfl
theorem e41 (C : CallT) (n0 : Int) (n1 : Int) (n2 : Int) (n3 : Int) : run1 GD LD C (.func 41) [.agg [.int .i64 n0, .int .i64 n1], .agg [.int .i64 n2, .int .i64 n3]] [] =
 (C.p (.func 34) [.agg [.int .i64 n0, .int .i64 n1]]).bind fun x0 =>
 (asBool (x0)).bind fun x1 =>
 cond x1 (
 (C.p (.func 51) []).bind fun x18 =>
 (asCells (x18)).bind fun x19 =>
 (uncons x19).bind fun x20 =>
 (asInt .i64 (x20.1)).bind fun x21 =>
 (uncons x20.2).bind fun x22 =>
 (asInt .i64 (x22.1)).bind fun x23 =>
 (isNil x22.2).bind fun x24 =>
 some (.agg [.int .i64 x21, .int .i64 x23], [])) (
 (C.p (.func 34) [.agg [.int .i64 n2, .int .i64 n3]]).bind fun x2 =>
 (asBool (x2)).bind fun x3 =>
 cond x3 (
 (C.p (.func 51) []).bind fun x11 =>
 (asCells (x11)).bind fun x12 =>
 (uncons x12).bind fun x13 =>
 (asInt .i64 (x13.1)).bind fun x14 =>
 (uncons x13.2).bind fun x15 =>
 (asInt .i64 (x15.1)).bind fun x16 =>
 (isNil x15.2).bind fun x17 =>
 some (.agg [.int .i64 x14, .int .i64 x16], [])) (
 (C.p (.func 39) [.int .i64 (IntKind.wrap .i64 (n0 + n2)), .int .i64 (IntKind.wrap .i64 (n1 + n3))]).bind fun x4 =>
 (asCells (x4)).bind fun x5 =>
 (uncons x5).bind fun x6 =>
 (asInt .i64 (x6.1)).bind fun x7 =>
 (uncons x6.2).bind fun x8 =>
 (asInt .i64 (x8.1)).bind fun x9 =>
 (isNil x8.2).bind fun x10 =>
 some (.agg [.int .i64 x7, .int .i64 x9], []))) := by kernel_rfl
theorem e46 (C : CallT) (n0 : Int) : run1 GD LD C (.func 46) [.int .i64 n0] [] =
 cond (decide (n0 > (-2147483648))) (
 some (.bool (decide (n0 < 2147483648)), [])) (
 some (.bool false, [])) := by kernel_rfl
theorem e50 (C : CallT) (n0 : Int) (n1 : Int) : run1 GD LD C (.func 50) [.agg [.int .i64 n0, .int .i64 n1]] [] =
 (C.p (.func 34) [.agg [.int .i64 n0, .int .i64 n1]]).bind fun x0 =>
 (asBool (x0)).bind fun x1 =>
 cond x1 (
 some (.bool true, [])) (
 (C.p (.func 46) [.int .i64 n0]).bind fun x2 =>
 (asBool (x2)).bind fun x3 =>
 cond x3 (
 (C.p (.func 46) [.int .i64 n1]).bind fun x4 =>
 (asBool (x4)).bind fun x5 =>
 cond x5 (
 some (.bool (decide (n0 ≤ n1)), [])) (
 some (.bool false, []))) (
 some (.bool false, []))) := by kernel_rfl
theorem e51 (C : CallT)  : run1 GD LD C (.func 51) [] [] =
 some (.agg [.int .i64 (-2147483648), .int .i64 2147483648], []) := by kernel_rfl
theorem e59 (C : CallT) (n0 : Int) (n1 : Int) : run1 GD LD C (.func 59) [.int .i64 n0, .int .i64 n1] [] =
 cond (n1 == 0) (
 none) (
 cond (n1 == 0) (
 none) (
 cond ((Int.tmod n0 n1) != 0) (
 cond (!((decide (n0 < 0)) == (decide (n1 < 0)))) (
 some (.int .i64 (IntKind.wrap .i64 ((IntKind.wrap .i64 (Int.tdiv n0 n1)) - 1)), [])) (
 some (.int .i64 (IntKind.wrap .i64 (Int.tdiv n0 n1)), []))) (
 some (.int .i64 (IntKind.wrap .i64 (Int.tdiv n0 n1)), [])))) := by kernel_rfl
theorem e67 (C : CallT) (n0 : Int) : run1 GD LD C (.func 67) [.int .i64 n0] [] =
 (C.p (.func 39) [.int .i64 n0, .int .i64 n0]).bind fun x0 =>
 (asCells (x0)).bind fun x1 =>
 (uncons x1).bind fun x2 =>
 (asInt .i64 (x2.1)).bind fun x3 =>
 (uncons x2.2).bind fun x4 =>
 (asInt .i64 (x4.1)).bind fun x5 =>
 (isNil x4.2).bind fun x6 =>
 some (.agg [.int .i64 x3, .int .i64 x5], []) := by kernel_rfl
def S68_6 (p0 : Int) (p1 : Int) (p2 : List (List V)) (p3 : Int) (p4 : Int) (p5 : Int) : St := ⟨(sp 0 64 [(4, .box [.int .i64 p0, .int .i64 p1]), (5, .slice .any p2), (6, .int .i64 p3), (7, .int .i64 p4), (8, .int .i64 p5)]), []⟩
theorem e68_6 (C : CallT) (n0 : Int) (n1 : Int) (r2 : List (List V)) (n3 : Int) (n4 : Int) (n5 : Int) : roundK GD LD C 68 none 6 (S68_6 n0 n1 r2 n3 n4 n5) =
 cond (decide (n5 < 4)) (
 (getRow r2 n5 1).bind fun x0 =>
 (uncons x0).bind fun x1 =>
 (asInt .i64 (x1.1)).bind fun x2 =>
 (isNil x1.2).bind fun x3 =>
 (getRow r2 n5 1).bind fun x4 =>
 (uncons x4).bind fun x5 =>
 (asInt .i64 (x5.1)).bind fun x6 =>
 (isNil x5.2).bind fun x7 =>
 some (.normal, (S68_6 n0 n1 r2 (if x2 < n3 then x2 else n3) (if x6 > n4 then x6 else n4) (IntKind.wrap .i64 (n5 + 1))))) (
 some ((.exit 0), (S68_6 n0 n1 r2 n3 n4 n5))) := by kernel_rfl
theorem e68 (C : CallT) (n0 : Int) (n1 : Int) (n2 : Int) (n3 : Int) : run1 GD LD C (.func 68) [.agg [.int .i64 n0, .int .i64 n1], .agg [.int .i64 n2, .int .i64 n3]] [] =
 (C.p (.func 34) [.agg [.int .i64 n0, .int .i64 n1]]).bind fun x0 =>
 (asBool (x0)).bind fun x1 =>
 cond x1 (
 (C.p (.func 51) []).bind fun x35 =>
 (asCells (x35)).bind fun x36 =>
 (uncons x36).bind fun x37 =>
 (asInt .i64 (x37.1)).bind fun x38 =>
 (uncons x37.2).bind fun x39 =>
 (asInt .i64 (x39.1)).bind fun x40 =>
 (isNil x39.2).bind fun x41 =>
 some (.agg [.int .i64 x38, .int .i64 x40], [])) (
 (C.p (.func 34) [.agg [.int .i64 n2, .int .i64 n3]]).bind fun x2 =>
 (asBool (x2)).bind fun x3 =>
 cond x3 (
 (C.p (.func 51) []).bind fun x28 =>
 (asCells (x28)).bind fun x29 =>
 (uncons x29).bind fun x30 =>
 (asInt .i64 (x30.1)).bind fun x31 =>
 (uncons x30.2).bind fun x32 =>
 (asInt .i64 (x32.1)).bind fun x33 =>
 (isNil x32.2).bind fun x34 =>
 some (.agg [.int .i64 x31, .int .i64 x33], [])) (
 (C.w (roundK GD LD C 68 none 6) (S68_6 0 0 [[.int .i64 (IntKind.wrap .i64 (n0 * n2))], [.int .i64 (IntKind.wrap .i64 (n0 * n3))], [.int .i64 (IntKind.wrap .i64 (n1 * n2))], [.int .i64 (IntKind.wrap .i64 (n1 * n3))]] (IntKind.wrap .i64 (n0 * n2)) (IntKind.wrap .i64 (n0 * n2)) 1)).bind fun x4 =>
 match x4.1 with
 | .normal =>
 none
 | .exit x6 =>
 cond (Nat.beq x6 0) (
 (asBox ((nth x4.2.t 4))).bind fun x7 =>
 (uncons x7).bind fun x8 =>
 (asInt .i64 (x8.1)).bind fun x9 =>
 (uncons x8.2).bind fun x10 =>
 (asInt .i64 (x10.1)).bind fun x11 =>
 (isNil x10.2).bind fun x12 =>
 (asRows ((nth x4.2.t 5))).bind fun x13 =>
 (asInt .i64 ((nth x4.2.t 6))).bind fun x14 =>
 (asInt .i64 ((nth x4.2.t 7))).bind fun x15 =>
 (asInt .i64 ((nth x4.2.t 8))).bind fun x16 =>
 (C.p (.func 59) [.int .i64 x14, .int .i64 65536]).bind fun x17 =>
 (asInt .i64 (x17)).bind fun x18 =>
 (C.p (.func 81) [.int .i64 x15, .int .i64 65536]).bind fun x19 =>
 (asInt .i64 (x19)).bind fun x20 =>
 (C.p (.func 39) [.int .i64 x18, .int .i64 x20]).bind fun x21 =>
 (asCells (x21)).bind fun x22 =>
 (uncons x22).bind fun x23 =>
 (asInt .i64 (x23.1)).bind fun x24 =>
 (uncons x23.2).bind fun x25 =>
 (asInt .i64 (x25.1)).bind fun x26 =>
 (isNil x25.2).bind fun x27 =>
 some (.agg [.int .i64 x24, .int .i64 x26], [])) (
 none)
 | .ret =>
 none)) := by kernel_rfl
theorem e81 (C : CallT) (n0 : Int) (n1 : Int) : run1 GD LD C (.func 81) [.int .i64 n0, .int .i64 n1] [] =
 (C.p (.func 59) [.int .i64 (IntKind.wrap .i64 (0 - n0)), .int .i64 n1]).bind fun x0 =>
 (asInt .i64 (x0)).bind fun x1 =>
 some (.int .i64 (IntKind.wrap .i64 (0 - x1)), []) := by kernel_rfl
theorem e82 (C : CallT) (n0 : Int) (n1 : Int) : run1 GD LD C (.func 82) [.agg [.int .i64 n0, .int .i64 n1]] [] =
 (C.p (.func 34) [.agg [.int .i64 n0, .int .i64 n1]]).bind fun x0 =>
 (asBool (x0)).bind fun x1 =>
 cond x1 (
 (C.p (.func 51) []).bind fun x35 =>
 (asCells (x35)).bind fun x36 =>
 (uncons x36).bind fun x37 =>
 (asInt .i64 (x37.1)).bind fun x38 =>
 (uncons x37.2).bind fun x39 =>
 (asInt .i64 (x39.1)).bind fun x40 =>
 (isNil x39.2).bind fun x41 =>
 some (.agg [.int .i64 x38, .int .i64 x40], [])) (
 cond (decide (n0 ≤ 0)) (
 cond (decide (n1 ≥ 0)) (
 (C.p (.func 59) [.int .i64 0, .int .i64 65536]).bind fun x24 =>
 (asInt .i64 (x24)).bind fun x25 =>
 (C.p (.func 81) [.int .i64 (if (IntKind.wrap .i64 (n1 * n1)) > (IntKind.wrap .i64 (n0 * n0)) then (IntKind.wrap .i64 (n1 * n1)) else (IntKind.wrap .i64 (n0 * n0))), .int .i64 65536]).bind fun x26 =>
 (asInt .i64 (x26)).bind fun x27 =>
 (C.p (.func 39) [.int .i64 x25, .int .i64 x27]).bind fun x28 =>
 (asCells (x28)).bind fun x29 =>
 (uncons x29).bind fun x30 =>
 (asInt .i64 (x30.1)).bind fun x31 =>
 (uncons x30.2).bind fun x32 =>
 (asInt .i64 (x32.1)).bind fun x33 =>
 (isNil x32.2).bind fun x34 =>
 some (.agg [.int .i64 x31, .int .i64 x33], [])) (
 (C.p (.func 59) [.int .i64 (if (IntKind.wrap .i64 (n1 * n1)) < (IntKind.wrap .i64 (n0 * n0)) then (IntKind.wrap .i64 (n1 * n1)) else (IntKind.wrap .i64 (n0 * n0))), .int .i64 65536]).bind fun x13 =>
 (asInt .i64 (x13)).bind fun x14 =>
 (C.p (.func 81) [.int .i64 (if (IntKind.wrap .i64 (n1 * n1)) > (IntKind.wrap .i64 (n0 * n0)) then (IntKind.wrap .i64 (n1 * n1)) else (IntKind.wrap .i64 (n0 * n0))), .int .i64 65536]).bind fun x15 =>
 (asInt .i64 (x15)).bind fun x16 =>
 (C.p (.func 39) [.int .i64 x14, .int .i64 x16]).bind fun x17 =>
 (asCells (x17)).bind fun x18 =>
 (uncons x18).bind fun x19 =>
 (asInt .i64 (x19.1)).bind fun x20 =>
 (uncons x19.2).bind fun x21 =>
 (asInt .i64 (x21.1)).bind fun x22 =>
 (isNil x21.2).bind fun x23 =>
 some (.agg [.int .i64 x20, .int .i64 x22], []))) (
 (C.p (.func 59) [.int .i64 (if (IntKind.wrap .i64 (n1 * n1)) < (IntKind.wrap .i64 (n0 * n0)) then (IntKind.wrap .i64 (n1 * n1)) else (IntKind.wrap .i64 (n0 * n0))), .int .i64 65536]).bind fun x2 =>
 (asInt .i64 (x2)).bind fun x3 =>
 (C.p (.func 81) [.int .i64 (if (IntKind.wrap .i64 (n1 * n1)) > (IntKind.wrap .i64 (n0 * n0)) then (IntKind.wrap .i64 (n1 * n1)) else (IntKind.wrap .i64 (n0 * n0))), .int .i64 65536]).bind fun x4 =>
 (asInt .i64 (x4)).bind fun x5 =>
 (C.p (.func 39) [.int .i64 x3, .int .i64 x5]).bind fun x6 =>
 (asCells (x6)).bind fun x7 =>
 (uncons x7).bind fun x8 =>
 (asInt .i64 (x8.1)).bind fun x9 =>
 (uncons x8.2).bind fun x10 =>
 (asInt .i64 (x10.1)).bind fun x11 =>
 (isNil x10.2).bind fun x12 =>
 some (.agg [.int .i64 x9, .int .i64 x11], []))) := by kernel_rfl
def S10_2 (p0 : List (List V)) (p1 : Bool) (p2 : Int) : St := ⟨(sp 0 56 [(0, .slice .any p0), (2, .bool p1), (3, .int .i64 p2)]), []⟩
theorem e10_2 (C : CallT) (r0 : List (List V)) (b1 : Bool) (n2 : Int) : roundK GD LD C 10 none 2 (S10_2 r0 b1 n2) =
 cond (decide (n2 < ((r0.length : Nat) : Int))) (
 (getRow r0 n2 7).bind fun x0 =>
 (uncons x0).bind fun x1 =>
 (asInt .i64 (x1.1)).bind fun x2 =>
 (uncons x1.2).bind fun x3 =>
 (asInt .u8 (x3.1)).bind fun x4 =>
 (uncons x3.2).bind fun x5 =>
 (asInt .u8 (x5.1)).bind fun x6 =>
 (uncons x5.2).bind fun x7 =>
 (asInt .u8 (x7.1)).bind fun x8 =>
 (uncons x7.2).bind fun x9 =>
 (asInt .u8 (x9.1)).bind fun x10 =>
 (uncons x9.2).bind fun x11 =>
 (asInt .u8 (x11.1)).bind fun x12 =>
 (uncons x11.2).bind fun x13 =>
 (asInt .u8 (x13.1)).bind fun x14 =>
 (isNil x13.2).bind fun x15 =>
 (C.p (.func 46) [.int .i64 x2]).bind fun x16 =>
 (asBool (x16)).bind fun x17 =>
 cond (!x17) (
 some (.ret, (S10_2 r0 false n2))) (
 (getRow r0 n2 7).bind fun x18 =>
 (uncons x18).bind fun x19 =>
 (asInt .i64 (x19.1)).bind fun x20 =>
 (uncons x19.2).bind fun x21 =>
 (asInt .u8 (x21.1)).bind fun x22 =>
 (uncons x21.2).bind fun x23 =>
 (asInt .u8 (x23.1)).bind fun x24 =>
 (uncons x23.2).bind fun x25 =>
 (asInt .u8 (x25.1)).bind fun x26 =>
 (uncons x25.2).bind fun x27 =>
 (asInt .u8 (x27.1)).bind fun x28 =>
 (uncons x27.2).bind fun x29 =>
 (asInt .u8 (x29.1)).bind fun x30 =>
 (uncons x29.2).bind fun x31 =>
 (asInt .u8 (x31.1)).bind fun x32 =>
 (isNil x31.2).bind fun x33 =>
 cond (x20 == 0) (
 some (.ret, (S10_2 r0 false n2))) (
 (getRow r0 n2 7).bind fun x34 =>
 (uncons x34).bind fun x35 =>
 (asInt .i64 (x35.1)).bind fun x36 =>
 (uncons x35.2).bind fun x37 =>
 (asInt .u8 (x37.1)).bind fun x38 =>
 (uncons x37.2).bind fun x39 =>
 (asInt .u8 (x39.1)).bind fun x40 =>
 (uncons x39.2).bind fun x41 =>
 (asInt .u8 (x41.1)).bind fun x42 =>
 (uncons x41.2).bind fun x43 =>
 (asInt .u8 (x43.1)).bind fun x44 =>
 (uncons x43.2).bind fun x45 =>
 (asInt .u8 (x45.1)).bind fun x46 =>
 (uncons x45.2).bind fun x47 =>
 (asInt .u8 (x47.1)).bind fun x48 =>
 (isNil x47.2).bind fun x49 =>
 (C.p (.func 47) [.agg [.int .u8 x38, .int .u8 x40, .int .u8 x42, .int .u8 x44, .int .u8 x46, .int .u8 x48]]).bind fun x50 =>
 (asInt .i64 (x50)).bind fun x51 =>
 cond (decide (x51 > 6)) (
 some (.ret, (S10_2 r0 false n2))) (
 cond (decide (n2 > 0)) (
 (getRow r0 (IntKind.wrap .i64 (n2 - 1)) 7).bind fun x52 =>
 (uncons x52).bind fun x53 =>
 (asInt .i64 (x53.1)).bind fun x54 =>
 (uncons x53.2).bind fun x55 =>
 (asInt .u8 (x55.1)).bind fun x56 =>
 (uncons x55.2).bind fun x57 =>
 (asInt .u8 (x57.1)).bind fun x58 =>
 (uncons x57.2).bind fun x59 =>
 (asInt .u8 (x59.1)).bind fun x60 =>
 (uncons x59.2).bind fun x61 =>
 (asInt .u8 (x61.1)).bind fun x62 =>
 (uncons x61.2).bind fun x63 =>
 (asInt .u8 (x63.1)).bind fun x64 =>
 (uncons x63.2).bind fun x65 =>
 (asInt .u8 (x65.1)).bind fun x66 =>
 (isNil x65.2).bind fun x67 =>
 (getRow r0 n2 7).bind fun x68 =>
 (uncons x68).bind fun x69 =>
 (asInt .i64 (x69.1)).bind fun x70 =>
 (uncons x69.2).bind fun x71 =>
 (asInt .u8 (x71.1)).bind fun x72 =>
 (uncons x71.2).bind fun x73 =>
 (asInt .u8 (x73.1)).bind fun x74 =>
 (uncons x73.2).bind fun x75 =>
 (asInt .u8 (x75.1)).bind fun x76 =>
 (uncons x75.2).bind fun x77 =>
 (asInt .u8 (x77.1)).bind fun x78 =>
 (uncons x77.2).bind fun x79 =>
 (asInt .u8 (x79.1)).bind fun x80 =>
 (uncons x79.2).bind fun x81 =>
 (asInt .u8 (x81.1)).bind fun x82 =>
 (isNil x81.2).bind fun x83 =>
 (C.p (.func 48) [.agg [.int .u8 x56, .int .u8 x58, .int .u8 x60, .int .u8 x62, .int .u8 x64, .int .u8 x66], .agg [.int .u8 x72, .int .u8 x74, .int .u8 x76, .int .u8 x78, .int .u8 x80, .int .u8 x82]]).bind fun x84 =>
 (asInt .i64 (x84)).bind fun x85 =>
 cond (decide (x85 ≥ 0)) (
 some (.ret, (S10_2 r0 false n2))) (
 some (.normal, (S10_2 r0 b1 (IntKind.wrap .i64 (n2 + 1)))))) (
 some (.normal, (S10_2 r0 b1 (IntKind.wrap .i64 (n2 + 1))))))))) (
 some ((.exit 0), (S10_2 r0 b1 n2))) := by kernel_rfl
theorem e10 (C : CallT) (r0 : List (List V)) : run1 GD LD C (.func 10) [.slice .any r0] [] =
 (C.w (roundK GD LD C 10 none 2) (S10_2 r0 false 0)).bind fun x0 =>
 match x0.1 with
 | .normal =>
 none
 | .exit x2 =>
 cond (Nat.beq x2 0) (
 (asRows ((nth x0.2.t 0))).bind fun x3 =>
 (asBool ((nth x0.2.t 2))).bind fun x4 =>
 (asInt .i64 ((nth x0.2.t 3))).bind fun x5 =>
 some (.bool (decide (((x3.length : Nat) : Int) ≤ 100)), [])) (
 none)
 | .ret =>
 (asRows ((nth x0.2.t 0))).bind fun x6 =>
 (asBool ((nth x0.2.t 2))).bind fun x7 =>
 (asInt .i64 ((nth x0.2.t 3))).bind fun x8 =>
 some (.bool x7, []) := by kernel_rfl
def S14_3 (p0 : List (List V)) (p1 : Int) (p2 : Int) (p3 : List (List V)) (p4 : Int) : St := ⟨(sp 0 30 [(1, .slice .any p0), (5, .box [.int .i64 p1, .int .i64 p2]), (6, .slice .any p3), (7, .int .i64 p4)]), []⟩
theorem e14_3 (C : CallT) (r0 : List (List V)) (n1 : Int) (n2 : Int) (r3 : List (List V)) (n4 : Int) : roundK GD LD C 14 none 3 (S14_3 r0 n1 n2 r3 n4) =
 cond (decide (n4 < ((r0.length : Nat) : Int))) (
 (getRow r0 n4 7).bind fun x0 =>
 (uncons x0).bind fun x1 =>
 (asInt .i64 (x1.1)).bind fun x2 =>
 (uncons x1.2).bind fun x3 =>
 (asInt .u8 (x3.1)).bind fun x4 =>
 (uncons x3.2).bind fun x5 =>
 (asInt .u8 (x5.1)).bind fun x6 =>
 (uncons x5.2).bind fun x7 =>
 (asInt .u8 (x7.1)).bind fun x8 =>
 (uncons x7.2).bind fun x9 =>
 (asInt .u8 (x9.1)).bind fun x10 =>
 (uncons x9.2).bind fun x11 =>
 (asInt .u8 (x11.1)).bind fun x12 =>
 (uncons x11.2).bind fun x13 =>
 (asInt .u8 (x13.1)).bind fun x14 =>
 (isNil x13.2).bind fun x15 =>
 (C.p (.func 53) [.slice .any r3, .agg [.int .i64 x2, .int .u8 x4, .int .u8 x6, .int .u8 x8, .int .u8 x10, .int .u8 x12, .int .u8 x14]]).bind fun x16 =>
 (asRows (x16)).bind fun x17 =>
 some (.normal, (S14_3 r0 n1 n2 x17 (IntKind.wrap .i64 (n4 + 1))))) (
 some ((.exit 0), (S14_3 r0 n1 n2 r3 n4))) := by kernel_rfl
theorem e14 (C : CallT) (r0 : List (List V)) (r1 : List (List V)) : run1 GD LD C (.func 14) [.slice .any r0, .slice .any r1] [] =
 (C.w (roundK GD LD C 14 none 3) (S14_3 r1 0 0 r0 0)).bind fun x0 =>
 match x0.1 with
 | .normal =>
 none
 | .exit x2 =>
 cond (Nat.beq x2 0) (
 (asRows ((nth x0.2.t 1))).bind fun x3 =>
 (asBox ((nth x0.2.t 5))).bind fun x4 =>
 (uncons x4).bind fun x5 =>
 (asInt .i64 (x5.1)).bind fun x6 =>
 (uncons x5.2).bind fun x7 =>
 (asInt .i64 (x7.1)).bind fun x8 =>
 (isNil x7.2).bind fun x9 =>
 (asRows ((nth x0.2.t 6))).bind fun x10 =>
 (asInt .i64 ((nth x0.2.t 7))).bind fun x11 =>
 (C.p (.func 54) [.slice .any x10, .int .i64 6, .int .i64 0, .int .i64 0]).bind fun x12 =>
 (asTuple (x12)).bind fun x13 =>
 (uncons x13).bind fun x14 =>
 (asRows (x14.1)).bind fun x15 =>
 (uncons x14.2).bind fun x16 =>
 (asCells (x16.1)).bind fun x17 =>
 (uncons x17).bind fun x18 =>
 (asInt .i64 (x18.1)).bind fun x19 =>
 (uncons x18.2).bind fun x20 =>
 (asInt .i64 (x20.1)).bind fun x21 =>
 (isNil x20.2).bind fun x22 =>
 (isNil x16.2).bind fun x23 =>
 some (.tuple [.slice .any x15, .agg [.int .i64 x19, .int .i64 x21]], [])) (
 none)
 | .ret =>
 none := by kernel_rfl
def S16_3 (p0 : List (List V)) (p1 : List (List V)) (p2 : Int) (p3 : Int) (p4 : Int) (p5 : List (List V)) (p6 : Int) (p7 : Int) (p8 : Int) : St := ⟨(sp 0 107 [(0, .slice .any p0), (1, .slice .any p1), (2, .int .i64 p2), (7, .box [.int .i64 p3, .int .i64 p4]), (8, .slice .any p5), (9, .int .i64 p6), (10, .int .i64 p7), (11, .int .i64 p8)]), []⟩
def S16_6 (p0 : List (List V)) (p1 : List (List V)) (p2 : Int) (p3 : Int) (p4 : Int) (p5 : List (List V)) (p6 : Int) (p7 : Int) (p8 : Int) (p9 : Int) : St := ⟨(sp 0 107 [(0, .slice .any p0), (1, .slice .any p1), (2, .int .i64 p2), (7, .box [.int .i64 p3, .int .i64 p4]), (8, .slice .any p5), (9, .int .i64 p6), (10, .int .i64 p7), (11, .int .i64 p8), (12, .int .i64 p9)]), []⟩
def S16_10 (p0 : List (List V)) (p1 : List (List V)) (p2 : Int) (p3 : Int) (p4 : Int) (p5 : List (List V)) (p6 : Int) (p7 : Int) (p8 : Int) (p9 : Int) (p10 : Int) (p11 : Int) (p12 : Int) (p13 : Int) (p14 : Int) (p15 : Int) (p16 : Int) (p17 : Int) : St := ⟨(sp 0 107 [(0, .slice .any p0), (1, .slice .any p1), (2, .int .i64 p2), (7, .box [.int .i64 p3, .int .i64 p4]), (8, .slice .any p5), (9, .int .i64 p6), (10, .int .i64 p7), (11, .int .i64 p8), (12, .int .i64 p9), (13, .box [.int .i64 p10, .int .u8 p11, .int .u8 p12, .int .u8 p13, .int .u8 p14, .int .u8 p15, .int .u8 p16]), (14, .int .i64 p17)]), []⟩
theorem e16_10 (C : CallT) (r0 : List (List V)) (r1 : List (List V)) (n2 : Int) (n3 : Int) (n4 : Int) (r5 : List (List V)) (n6 : Int) (n7 : Int) (n8 : Int) (n9 : Int) (n10 : Int) (n11 : Int) (n12 : Int) (n13 : Int) (n14 : Int) (n15 : Int) (n16 : Int) (n17 : Int) : roundK GD LD C 16 none 10 (S16_10 r0 r1 n2 n3 n4 r5 n6 n7 n8 n9 n10 n11 n12 n13 n14 n15 n16 n17) =
 cond (decide (n17 < 6)) (
 (getRow r0 n8 7).bind fun x0 =>
 (uncons x0).bind fun x1 =>
 (asInt .i64 (x1.1)).bind fun x2 =>
 (uncons x1.2).bind fun x3 =>
 (asInt .u8 (x3.1)).bind fun x4 =>
 (uncons x3.2).bind fun x5 =>
 (asInt .u8 (x5.1)).bind fun x6 =>
 (uncons x5.2).bind fun x7 =>
 (asInt .u8 (x7.1)).bind fun x8 =>
 (uncons x7.2).bind fun x9 =>
 (asInt .u8 (x9.1)).bind fun x10 =>
 (uncons x9.2).bind fun x11 =>
 (asInt .u8 (x11.1)).bind fun x12 =>
 (uncons x11.2).bind fun x13 =>
 (asInt .u8 (x13.1)).bind fun x14 =>
 (isNil x13.2).bind fun x15 =>
 cond (decide (0 ≤ n17)) (
 cond (decide (n17.toNat < 6)) (
 cond (false || ((true && (Nat.beq (1 + (n17.toNat * 1)) 1)) || ((true && (Nat.beq (1 + (n17.toNat * 1)) 2)) || ((true && (Nat.beq (1 + (n17.toNat * 1)) 3)) || ((true && (Nat.beq (1 + (n17.toNat * 1)) 4)) || ((true && (Nat.beq (1 + (n17.toNat * 1)) 5)) || ((true && (Nat.beq (1 + (n17.toNat * 1)) 6)) || false))))))) (
 (nthI [x2, x4, x6, x8, x10, x12, x14] (1 + (n17.toNat * 1))).bind fun x16 =>
 (getRow r1 n9 7).bind fun x17 =>
 (uncons x17).bind fun x18 =>
 (asInt .i64 (x18.1)).bind fun x19 =>
 (uncons x18.2).bind fun x20 =>
 (asInt .u8 (x20.1)).bind fun x21 =>
 (uncons x20.2).bind fun x22 =>
 (asInt .u8 (x22.1)).bind fun x23 =>
 (uncons x22.2).bind fun x24 =>
 (asInt .u8 (x24.1)).bind fun x25 =>
 (uncons x24.2).bind fun x26 =>
 (asInt .u8 (x26.1)).bind fun x27 =>
 (uncons x26.2).bind fun x28 =>
 (asInt .u8 (x28.1)).bind fun x29 =>
 (uncons x28.2).bind fun x30 =>
 (asInt .u8 (x30.1)).bind fun x31 =>
 (isNil x30.2).bind fun x32 =>
 cond (decide (0 ≤ n17)) (
 cond (decide (n17.toNat < 6)) (
 cond (false || ((true && (Nat.beq (1 + (n17.toNat * 1)) 1)) || ((true && (Nat.beq (1 + (n17.toNat * 1)) 2)) || ((true && (Nat.beq (1 + (n17.toNat * 1)) 3)) || ((true && (Nat.beq (1 + (n17.toNat * 1)) 4)) || ((true && (Nat.beq (1 + (n17.toNat * 1)) 5)) || ((true && (Nat.beq (1 + (n17.toNat * 1)) 6)) || false))))))) (
 (nthI [x19, x21, x23, x25, x27, x29, x31] (1 + (n17.toNat * 1))).bind fun x33 =>
 cond (decide (0 ≤ n17)) (
 cond (decide (n17.toNat < 6)) (
 cond (false || ((true && (Nat.beq (1 + (n17.toNat * 1)) 1)) || ((true && (Nat.beq (1 + (n17.toNat * 1)) 2)) || ((true && (Nat.beq (1 + (n17.toNat * 1)) 3)) || ((true && (Nat.beq (1 + (n17.toNat * 1)) 4)) || ((true && (Nat.beq (1 + (n17.toNat * 1)) 5)) || ((true && (Nat.beq (1 + (n17.toNat * 1)) 6)) || false))))))) (
 some (.normal, (S16_10 r0 r1 n2 n3 n4 r5 n6 n7 n8 n9 n10 (cond (Nat.beq (1 + (n17.toNat * 1)) 1) (IntKind.wrap .u8 (x16 + x33)) n11) (cond (Nat.beq (1 + (n17.toNat * 1)) 2) (IntKind.wrap .u8 (x16 + x33)) n12) (cond (Nat.beq (1 + (n17.toNat * 1)) 3) (IntKind.wrap .u8 (x16 + x33)) n13) (cond (Nat.beq (1 + (n17.toNat * 1)) 4) (IntKind.wrap .u8 (x16 + x33)) n14) (cond (Nat.beq (1 + (n17.toNat * 1)) 5) (IntKind.wrap .u8 (x16 + x33)) n15) (cond (Nat.beq (1 + (n17.toNat * 1)) 6) (IntKind.wrap .u8 (x16 + x33)) n16) (IntKind.wrap .i64 (n17 + 1))))) (
 none)) (
 none)) (
 none)) (
 none)) (
 none)) (
 none)) (
 none)) (
 none)) (
 none)) (
 some ((.exit 4), (S16_10 r0 r1 n2 n3 n4 r5 n6 n7 n8 n9 n10 n11 n12 n13 n14 n15 n16 n17))) := by kernel_rfl
theorem e16_6 (C : CallT) (r0 : List (List V)) (r1 : List (List V)) (n2 : Int) (n3 : Int) (n4 : Int) (r5 : List (List V)) (n6 : Int) (n7 : Int) (n8 : Int) (n9 : Int) : roundK GD LD C 16 none 6 (S16_6 r0 r1 n2 n3 n4 r5 n6 n7 n8 n9) =
 cond (decide (n9 < ((r1.length : Nat) : Int))) (
 (getRow r0 n8 7).bind fun x0 =>
 (uncons x0).bind fun x1 =>
 (asInt .i64 (x1.1)).bind fun x2 =>
 (uncons x1.2).bind fun x3 =>
 (asInt .u8 (x3.1)).bind fun x4 =>
 (uncons x3.2).bind fun x5 =>
 (asInt .u8 (x5.1)).bind fun x6 =>
 (uncons x5.2).bind fun x7 =>
 (asInt .u8 (x7.1)).bind fun x8 =>
 (uncons x7.2).bind fun x9 =>
 (asInt .u8 (x9.1)).bind fun x10 =>
 (uncons x9.2).bind fun x11 =>
 (asInt .u8 (x11.1)).bind fun x12 =>
 (uncons x11.2).bind fun x13 =>
 (asInt .u8 (x13.1)).bind fun x14 =>
 (isNil x13.2).bind fun x15 =>
 (getRow r1 n9 7).bind fun x16 =>
 (uncons x16).bind fun x17 =>
 (asInt .i64 (x17.1)).bind fun x18 =>
 (uncons x17.2).bind fun x19 =>
 (asInt .u8 (x19.1)).bind fun x20 =>
 (uncons x19.2).bind fun x21 =>
 (asInt .u8 (x21.1)).bind fun x22 =>
 (uncons x21.2).bind fun x23 =>
 (asInt .u8 (x23.1)).bind fun x24 =>
 (uncons x23.2).bind fun x25 =>
 (asInt .u8 (x25.1)).bind fun x26 =>
 (uncons x25.2).bind fun x27 =>
 (asInt .u8 (x27.1)).bind fun x28 =>
 (uncons x27.2).bind fun x29 =>
 (asInt .u8 (x29.1)).bind fun x30 =>
 (isNil x29.2).bind fun x31 =>
 (C.p (.func 59) [.int .i64 (IntKind.wrap .i64 (x2 * x18)), .int .i64 65536]).bind fun x32 =>
 (asInt .i64 (x32)).bind fun x33 =>
 (C.w (roundK GD LD C 16 none 10) (S16_10 r0 r1 n2 n3 n4 r5 n6 n7 n8 n9 x33 0 0 0 0 0 0 0)).bind fun x34 =>
 match x34.1 with
 | .normal =>
 none
 | .exit x36 =>
 cond (Nat.beq x36 4) (
 (asRows ((nth x34.2.t 0))).bind fun x37 =>
 (asRows ((nth x34.2.t 1))).bind fun x38 =>
 (asInt .i64 ((nth x34.2.t 2))).bind fun x39 =>
 (asBox ((nth x34.2.t 7))).bind fun x40 =>
 (uncons x40).bind fun x41 =>
 (asInt .i64 (x41.1)).bind fun x42 =>
 (uncons x41.2).bind fun x43 =>
 (asInt .i64 (x43.1)).bind fun x44 =>
 (isNil x43.2).bind fun x45 =>
 (asRows ((nth x34.2.t 8))).bind fun x46 =>
 (asInt .i64 ((nth x34.2.t 9))).bind fun x47 =>
 (asInt .i64 ((nth x34.2.t 10))).bind fun x48 =>
 (asInt .i64 ((nth x34.2.t 11))).bind fun x49 =>
 (asInt .i64 ((nth x34.2.t 12))).bind fun x50 =>
 (asBox ((nth x34.2.t 13))).bind fun x51 =>
 (uncons x51).bind fun x52 =>
 (asInt .i64 (x52.1)).bind fun x53 =>
 (uncons x52.2).bind fun x54 =>
 (asInt .u8 (x54.1)).bind fun x55 =>
 (uncons x54.2).bind fun x56 =>
 (asInt .u8 (x56.1)).bind fun x57 =>
 (uncons x56.2).bind fun x58 =>
 (asInt .u8 (x58.1)).bind fun x59 =>
 (uncons x58.2).bind fun x60 =>
 (asInt .u8 (x60.1)).bind fun x61 =>
 (uncons x60.2).bind fun x62 =>
 (asInt .u8 (x62.1)).bind fun x63 =>
 (uncons x62.2).bind fun x64 =>
 (asInt .u8 (x64.1)).bind fun x65 =>
 (isNil x64.2).bind fun x66 =>
 (asInt .i64 ((nth x34.2.t 14))).bind fun x67 =>
 (getRow x37 x49 7).bind fun x68 =>
 (uncons x68).bind fun x69 =>
 (asInt .i64 (x69.1)).bind fun x70 =>
 (uncons x69.2).bind fun x71 =>
 (asInt .u8 (x71.1)).bind fun x72 =>
 (uncons x71.2).bind fun x73 =>
 (asInt .u8 (x73.1)).bind fun x74 =>
 (uncons x73.2).bind fun x75 =>
 (asInt .u8 (x75.1)).bind fun x76 =>
 (uncons x75.2).bind fun x77 =>
 (asInt .u8 (x77.1)).bind fun x78 =>
 (uncons x77.2).bind fun x79 =>
 (asInt .u8 (x79.1)).bind fun x80 =>
 (uncons x79.2).bind fun x81 =>
 (asInt .u8 (x81.1)).bind fun x82 =>
 (isNil x81.2).bind fun x83 =>
 (getRow x38 x50 7).bind fun x84 =>
 (uncons x84).bind fun x85 =>
 (asInt .i64 (x85.1)).bind fun x86 =>
 (uncons x85.2).bind fun x87 =>
 (asInt .u8 (x87.1)).bind fun x88 =>
 (uncons x87.2).bind fun x89 =>
 (asInt .u8 (x89.1)).bind fun x90 =>
 (uncons x89.2).bind fun x91 =>
 (asInt .u8 (x91.1)).bind fun x92 =>
 (uncons x91.2).bind fun x93 =>
 (asInt .u8 (x93.1)).bind fun x94 =>
 (uncons x93.2).bind fun x95 =>
 (asInt .u8 (x95.1)).bind fun x96 =>
 (uncons x95.2).bind fun x97 =>
 (asInt .u8 (x97.1)).bind fun x98 =>
 (isNil x97.2).bind fun x99 =>
 cond ((IntKind.wrap .i64 (x53 * 65536)) != (IntKind.wrap .i64 (x70 * x86))) (
 (C.p (.func 60) [.int .i64 1, .agg [.int .u8 x55, .int .u8 x57, .int .u8 x59, .int .u8 x61, .int .u8 x63, .int .u8 x65]]).bind fun x102 =>
 (asTuple (x102)).bind fun x103 =>
 (uncons x103).bind fun x104 =>
 (asInt .i64 (x104.1)).bind fun x105 =>
 (uncons x104.2).bind fun x106 =>
 (asInt .i64 (x106.1)).bind fun x107 =>
 (isNil x106.2).bind fun x108 =>
 (C.p (.func 53) [.slice .any x46, .agg [.int .i64 x53, .int .u8 x55, .int .u8 x57, .int .u8 x59, .int .u8 x61, .int .u8 x63, .int .u8 x65]]).bind fun x109 =>
 (asRows (x109)).bind fun x110 =>
 some (.normal, (S16_6 x37 x38 x39 x42 x44 x110 (IntKind.wrap .i64 (x47 + (if 0 < x105 then 0 else x105))) (IntKind.wrap .i64 (x48 + 1)) x49 (IntKind.wrap .i64 (x50 + 1))))) (
 (C.p (.func 53) [.slice .any x46, .agg [.int .i64 x53, .int .u8 x55, .int .u8 x57, .int .u8 x59, .int .u8 x61, .int .u8 x63, .int .u8 x65]]).bind fun x100 =>
 (asRows (x100)).bind fun x101 =>
 some (.normal, (S16_6 x37 x38 x39 x42 x44 x101 x47 x48 x49 (IntKind.wrap .i64 (x50 + 1)))))) (
 none)
 | .ret =>
 none) (
 some ((.exit 2), (S16_6 r0 r1 n2 n3 n4 r5 n6 n7 n8 n9))) := by kernel_rfl
theorem e16_3 (C : CallT) (r0 : List (List V)) (r1 : List (List V)) (n2 : Int) (n3 : Int) (n4 : Int) (r5 : List (List V)) (n6 : Int) (n7 : Int) (n8 : Int) : roundK GD LD C 16 none 3 (S16_3 r0 r1 n2 n3 n4 r5 n6 n7 n8) =
 cond (decide (n8 < ((r0.length : Nat) : Int))) (
 (C.w (roundK GD LD C 16 none 6) (S16_6 r0 r1 n2 n3 n4 r5 n6 n7 n8 0)).bind fun x0 =>
 match x0.1 with
 | .normal =>
 none
 | .exit x2 =>
 cond (Nat.beq x2 2) (
 (asRows ((nth x0.2.t 0))).bind fun x3 =>
 (asRows ((nth x0.2.t 1))).bind fun x4 =>
 (asInt .i64 ((nth x0.2.t 2))).bind fun x5 =>
 (asBox ((nth x0.2.t 7))).bind fun x6 =>
 (uncons x6).bind fun x7 =>
 (asInt .i64 (x7.1)).bind fun x8 =>
 (uncons x7.2).bind fun x9 =>
 (asInt .i64 (x9.1)).bind fun x10 =>
 (isNil x9.2).bind fun x11 =>
 (asRows ((nth x0.2.t 8))).bind fun x12 =>
 (asInt .i64 ((nth x0.2.t 9))).bind fun x13 =>
 (asInt .i64 ((nth x0.2.t 10))).bind fun x14 =>
 (asInt .i64 ((nth x0.2.t 11))).bind fun x15 =>
 (asInt .i64 ((nth x0.2.t 12))).bind fun x16 =>
 some (.normal, (S16_3 x3 x4 x5 x8 x10 x12 x13 x14 (IntKind.wrap .i64 (x15 + 1))))) (
 none)
 | .ret =>
 none) (
 some ((.exit 0), (S16_3 r0 r1 n2 n3 n4 r5 n6 n7 n8))) := by kernel_rfl
theorem e16 (C : CallT) (r0 : List (List V)) (r1 : List (List V)) (n2 : Int) : run1 GD LD C (.func 16) [.slice .any r0, .slice .any r1, .int .i64 n2] [] =
 (C.w (roundK GD LD C 16 none 3) (S16_3 r0 r1 n2 0 0 [] 0 0 0)).bind fun x0 =>
 match x0.1 with
 | .normal =>
 none
 | .exit x2 =>
 cond (Nat.beq x2 0) (
 (asRows ((nth x0.2.t 0))).bind fun x3 =>
 (asRows ((nth x0.2.t 1))).bind fun x4 =>
 (asInt .i64 ((nth x0.2.t 2))).bind fun x5 =>
 (asBox ((nth x0.2.t 7))).bind fun x6 =>
 (uncons x6).bind fun x7 =>
 (asInt .i64 (x7.1)).bind fun x8 =>
 (uncons x7.2).bind fun x9 =>
 (asInt .i64 (x9.1)).bind fun x10 =>
 (isNil x9.2).bind fun x11 =>
 (asRows ((nth x0.2.t 8))).bind fun x12 =>
 (asInt .i64 ((nth x0.2.t 9))).bind fun x13 =>
 (asInt .i64 ((nth x0.2.t 10))).bind fun x14 =>
 (asInt .i64 ((nth x0.2.t 11))).bind fun x15 =>
 (C.p (.func 54) [.slice .any x12, .int .i64 x5, .int .i64 x13, .int .i64 x14]).bind fun x16 =>
 (asTuple (x16)).bind fun x17 =>
 (uncons x17).bind fun x18 =>
 (asRows (x18.1)).bind fun x19 =>
 (uncons x18.2).bind fun x20 =>
 (asCells (x20.1)).bind fun x21 =>
 (uncons x21).bind fun x22 =>
 (asInt .i64 (x22.1)).bind fun x23 =>
 (uncons x22.2).bind fun x24 =>
 (asInt .i64 (x24.1)).bind fun x25 =>
 (isNil x24.2).bind fun x26 =>
 (isNil x20.2).bind fun x27 =>
 some (.tuple [.slice .any x19, .agg [.int .i64 x23, .int .i64 x25]], [])) (
 none)
 | .ret =>
 none := by kernel_rfl
theorem e18 (C : CallT) (r0 : List (List V)) (n1 : Int) : run1 GD LD C (.func 18) [.slice .any r0, .int .i64 n1] [] =
 (C.p (.func 30) [.int .i64 n1]).bind fun x0 =>
 (asRows (x0)).bind fun x1 =>
 (C.p (.func 16) [.slice .any r0, .slice .any x1, .int .i64 6]).bind fun x2 =>
 (asTuple (x2)).bind fun x3 =>
 (uncons x3).bind fun x4 =>
 (asRows (x4.1)).bind fun x5 =>
 (uncons x4.2).bind fun x6 =>
 (asCells (x6.1)).bind fun x7 =>
 (uncons x7).bind fun x8 =>
 (asInt .i64 (x8.1)).bind fun x9 =>
 (uncons x8.2).bind fun x10 =>
 (asInt .i64 (x10.1)).bind fun x11 =>
 (isNil x10.2).bind fun x12 =>
 (isNil x6.2).bind fun x13 =>
 some (.tuple [.slice .any x5, .agg [.int .i64 x9, .int .i64 x11]], []) := by kernel_rfl
theorem e20 (C : CallT) (r0 : List (List V)) (n1 : Int) : run1 GD LD C (.func 20) [.slice .any r0, .int .i64 n1] [] =
 (C.p (.func 54) [.slice .any r0, .int .i64 n1, .int .i64 0, .int .i64 0]).bind fun x0 =>
 (asTuple (x0)).bind fun x1 =>
 (uncons x1).bind fun x2 =>
 (asRows (x2.1)).bind fun x3 =>
 (uncons x2.2).bind fun x4 =>
 (asCells (x4.1)).bind fun x5 =>
 (uncons x5).bind fun x6 =>
 (asInt .i64 (x6.1)).bind fun x7 =>
 (uncons x6.2).bind fun x8 =>
 (asInt .i64 (x8.1)).bind fun x9 =>
 (isNil x8.2).bind fun x10 =>
 (isNil x4.2).bind fun x11 =>
 some (.tuple [.slice .any x3, .agg [.int .i64 x7, .int .i64 x9]], []) := by kernel_rfl
def S21_4 (p0 : List (List V)) (p1 : List (List V)) (p2 : Bool) (p3 : Int) : St := ⟨(sp 0 42 [(0, .slice .any p0), (1, .slice .any p1), (4, .bool p2), (5, .int .i64 p3)]), []⟩
theorem e21_4 (C : CallT) (r0 : List (List V)) (r1 : List (List V)) (b2 : Bool) (n3 : Int) : roundK GD LD C 21 none 4 (S21_4 r0 r1 b2 n3) =
 cond (decide (n3 < ((r0.length : Nat) : Int))) (
 (getRow r0 n3 7).bind fun x0 =>
 (uncons x0).bind fun x1 =>
 (asInt .i64 (x1.1)).bind fun x2 =>
 (uncons x1.2).bind fun x3 =>
 (asInt .u8 (x3.1)).bind fun x4 =>
 (uncons x3.2).bind fun x5 =>
 (asInt .u8 (x5.1)).bind fun x6 =>
 (uncons x5.2).bind fun x7 =>
 (asInt .u8 (x7.1)).bind fun x8 =>
 (uncons x7.2).bind fun x9 =>
 (asInt .u8 (x9.1)).bind fun x10 =>
 (uncons x9.2).bind fun x11 =>
 (asInt .u8 (x11.1)).bind fun x12 =>
 (uncons x11.2).bind fun x13 =>
 (asInt .u8 (x13.1)).bind fun x14 =>
 (isNil x13.2).bind fun x15 =>
 (getRow r1 n3 7).bind fun x16 =>
 (uncons x16).bind fun x17 =>
 (asInt .i64 (x17.1)).bind fun x18 =>
 (uncons x17.2).bind fun x19 =>
 (asInt .u8 (x19.1)).bind fun x20 =>
 (uncons x19.2).bind fun x21 =>
 (asInt .u8 (x21.1)).bind fun x22 =>
 (uncons x21.2).bind fun x23 =>
 (asInt .u8 (x23.1)).bind fun x24 =>
 (uncons x23.2).bind fun x25 =>
 (asInt .u8 (x25.1)).bind fun x26 =>
 (uncons x25.2).bind fun x27 =>
 (asInt .u8 (x27.1)).bind fun x28 =>
 (uncons x27.2).bind fun x29 =>
 (asInt .u8 (x29.1)).bind fun x30 =>
 (isNil x29.2).bind fun x31 =>
 cond (x2 != x18) (
 some (.ret, (S21_4 r0 r1 false n3))) (
 (getRow r0 n3 7).bind fun x32 =>
 (uncons x32).bind fun x33 =>
 (asInt .i64 (x33.1)).bind fun x34 =>
 (uncons x33.2).bind fun x35 =>
 (asInt .u8 (x35.1)).bind fun x36 =>
 (uncons x35.2).bind fun x37 =>
 (asInt .u8 (x37.1)).bind fun x38 =>
 (uncons x37.2).bind fun x39 =>
 (asInt .u8 (x39.1)).bind fun x40 =>
 (uncons x39.2).bind fun x41 =>
 (asInt .u8 (x41.1)).bind fun x42 =>
 (uncons x41.2).bind fun x43 =>
 (asInt .u8 (x43.1)).bind fun x44 =>
 (uncons x43.2).bind fun x45 =>
 (asInt .u8 (x45.1)).bind fun x46 =>
 (isNil x45.2).bind fun x47 =>
 (getRow r1 n3 7).bind fun x48 =>
 (uncons x48).bind fun x49 =>
 (asInt .i64 (x49.1)).bind fun x50 =>
 (uncons x49.2).bind fun x51 =>
 (asInt .u8 (x51.1)).bind fun x52 =>
 (uncons x51.2).bind fun x53 =>
 (asInt .u8 (x53.1)).bind fun x54 =>
 (uncons x53.2).bind fun x55 =>
 (asInt .u8 (x55.1)).bind fun x56 =>
 (uncons x55.2).bind fun x57 =>
 (asInt .u8 (x57.1)).bind fun x58 =>
 (uncons x57.2).bind fun x59 =>
 (asInt .u8 (x59.1)).bind fun x60 =>
 (uncons x59.2).bind fun x61 =>
 (asInt .u8 (x61.1)).bind fun x62 =>
 (isNil x61.2).bind fun x63 =>
 (C.p (.func 48) [.agg [.int .u8 x36, .int .u8 x38, .int .u8 x40, .int .u8 x42, .int .u8 x44, .int .u8 x46], .agg [.int .u8 x52, .int .u8 x54, .int .u8 x56, .int .u8 x58, .int .u8 x60, .int .u8 x62]]).bind fun x64 =>
 (asInt .i64 (x64)).bind fun x65 =>
 cond (x65 != 0) (
 some (.ret, (S21_4 r0 r1 false n3))) (
 some (.normal, (S21_4 r0 r1 b2 (IntKind.wrap .i64 (n3 + 1))))))) (
 some ((.exit 0), (S21_4 r0 r1 b2 n3))) := by kernel_rfl
theorem e21 (C : CallT) (r0 : List (List V)) (r1 : List (List V)) : run1 GD LD C (.func 21) [.slice .any r0, .slice .any r1] [] =
 cond (((r0.length : Nat) : Int) != ((r1.length : Nat) : Int)) (
 some (.bool false, [])) (
 (C.w (roundK GD LD C 21 none 4) (S21_4 r0 r1 false 0)).bind fun x0 =>
 match x0.1 with
 | .normal =>
 none
 | .exit x2 =>
 cond (Nat.beq x2 0) (
 (asRows ((nth x0.2.t 0))).bind fun x3 =>
 (asRows ((nth x0.2.t 1))).bind fun x4 =>
 (asBool ((nth x0.2.t 4))).bind fun x5 =>
 (asInt .i64 ((nth x0.2.t 5))).bind fun x6 =>
 some (.bool true, [])) (
 none)
 | .ret =>
 (asRows ((nth x0.2.t 0))).bind fun x7 =>
 (asRows ((nth x0.2.t 1))).bind fun x8 =>
 (asBool ((nth x0.2.t 4))).bind fun x9 =>
 (asInt .i64 ((nth x0.2.t 5))).bind fun x10 =>
 some (.bool x9, [])) := by kernel_rfl
def S24_3 (p0 : List (List V)) (p1 : Int) (p2 : Int) (p3 : Int) (p4 : Int) (p5 : Int) : St := ⟨(sp 0 37 [(0, .slice .any p0), (2, .box [.int .i64 p1, .int .i64 p2]), (3, .int .i64 p3), (4, .int .i64 p4), (5, .int .i64 p5)]), []⟩
theorem e24_3 (C : CallT) (r0 : List (List V)) (n1 : Int) (n2 : Int) (n3 : Int) (n4 : Int) (n5 : Int) : roundK GD LD C 24 none 3 (S24_3 r0 n1 n2 n3 n4 n5) =
 cond (decide (n5 < ((r0.length : Nat) : Int))) (
 (getRow r0 n5 7).bind fun x0 =>
 (uncons x0).bind fun x1 =>
 (asInt .i64 (x1.1)).bind fun x2 =>
 (uncons x1.2).bind fun x3 =>
 (asInt .u8 (x3.1)).bind fun x4 =>
 (uncons x3.2).bind fun x5 =>
 (asInt .u8 (x5.1)).bind fun x6 =>
 (uncons x5.2).bind fun x7 =>
 (asInt .u8 (x7.1)).bind fun x8 =>
 (uncons x7.2).bind fun x9 =>
 (asInt .u8 (x9.1)).bind fun x10 =>
 (uncons x9.2).bind fun x11 =>
 (asInt .u8 (x11.1)).bind fun x12 =>
 (uncons x11.2).bind fun x13 =>
 (asInt .u8 (x13.1)).bind fun x14 =>
 (isNil x13.2).bind fun x15 =>
 (getRow r0 n5 7).bind fun x16 =>
 (uncons x16).bind fun x17 =>
 (asInt .i64 (x17.1)).bind fun x18 =>
 (uncons x17.2).bind fun x19 =>
 (asInt .u8 (x19.1)).bind fun x20 =>
 (uncons x19.2).bind fun x21 =>
 (asInt .u8 (x21.1)).bind fun x22 =>
 (uncons x21.2).bind fun x23 =>
 (asInt .u8 (x23.1)).bind fun x24 =>
 (uncons x23.2).bind fun x25 =>
 (asInt .u8 (x25.1)).bind fun x26 =>
 (uncons x25.2).bind fun x27 =>
 (asInt .u8 (x27.1)).bind fun x28 =>
 (uncons x27.2).bind fun x29 =>
 (asInt .u8 (x29.1)).bind fun x30 =>
 (isNil x29.2).bind fun x31 =>
 (C.p (.func 60) [.int .i64 x2, .agg [.int .u8 x20, .int .u8 x22, .int .u8 x24, .int .u8 x26, .int .u8 x28, .int .u8 x30]]).bind fun x32 =>
 (asTuple (x32)).bind fun x33 =>
 (uncons x33).bind fun x34 =>
 (asInt .i64 (x34.1)).bind fun x35 =>
 (uncons x34.2).bind fun x36 =>
 (asInt .i64 (x36.1)).bind fun x37 =>
 (isNil x36.2).bind fun x38 =>
 some (.normal, (S24_3 r0 n1 n2 (IntKind.wrap .i64 (n3 + x35)) (IntKind.wrap .i64 (n4 + x37)) (IntKind.wrap .i64 (n5 + 1))))) (
 some ((.exit 0), (S24_3 r0 n1 n2 n3 n4 n5))) := by kernel_rfl
theorem e24 (C : CallT) (r0 : List (List V)) : run1 GD LD C (.func 24) [.slice .any r0] [] =
 (C.w (roundK GD LD C 24 none 3) (S24_3 r0 0 0 0 0 0)).bind fun x0 =>
 match x0.1 with
 | .normal =>
 none
 | .exit x2 =>
 cond (Nat.beq x2 0) (
 (asRows ((nth x0.2.t 0))).bind fun x3 =>
 (asBox ((nth x0.2.t 2))).bind fun x4 =>
 (uncons x4).bind fun x5 =>
 (asInt .i64 (x5.1)).bind fun x6 =>
 (uncons x5.2).bind fun x7 =>
 (asInt .i64 (x7.1)).bind fun x8 =>
 (isNil x7.2).bind fun x9 =>
 (asInt .i64 ((nth x0.2.t 3))).bind fun x10 =>
 (asInt .i64 ((nth x0.2.t 4))).bind fun x11 =>
 (asInt .i64 ((nth x0.2.t 5))).bind fun x12 =>
 (C.p (.func 39) [.int .i64 x10, .int .i64 x11]).bind fun x13 =>
 (asCells (x13)).bind fun x14 =>
 (uncons x14).bind fun x15 =>
 (asInt .i64 (x15.1)).bind fun x16 =>
 (uncons x15.2).bind fun x17 =>
 (asInt .i64 (x17.1)).bind fun x18 =>
 (isNil x17.2).bind fun x19 =>
 some (.agg [.int .i64 x16, .int .i64 x18], [])) (
 none)
 | .ret =>
 none := by kernel_rfl
def S26_3 (p0 : List (List V)) (p1 : List (List V)) (p2 : Int) (p3 : Int) (p4 : Int) (p5 : Int) (p6 : Int) : St := ⟨(sp 0 60 [(0, .slice .any p0), (1, .slice .any p1), (4, .box [.int .i64 p2, .int .i64 p3]), (5, .box [.int .i64 p4, .int .i64 p5]), (6, .int .i64 p6)]), []⟩
def S26_7 (p0 : List (List V)) (p1 : List (List V)) (p2 : Int) (p3 : Int) (p4 : Int) (p5 : Int) (p6 : Int) (p7 : Int) (p8 : Int) (p9 : Int) : St := ⟨(sp 0 60 [(0, .slice .any p0), (1, .slice .any p1), (4, .box [.int .i64 p2, .int .i64 p3]), (5, .box [.int .i64 p4, .int .i64 p5]), (6, .int .i64 p6), (7, .box [.int .i64 p7, .int .i64 p8]), (8, .int .i64 p9)]), []⟩
theorem e26_7 (C : CallT) (r0 : List (List V)) (r1 : List (List V)) (n2 : Int) (n3 : Int) (n4 : Int) (n5 : Int) (n6 : Int) (n7 : Int) (n8 : Int) (n9 : Int) : roundK GD LD C 26 none 7 (S26_7 r0 r1 n2 n3 n4 n5 n6 n7 n8 n9) =
 cond (decide (n9 < 6)) (
 cond (decide (n9 < ((r1.length : Nat) : Int))) (
 (getRow r1 n9 2).bind fun x48 =>
 (uncons x48).bind fun x49 =>
 (asInt .i64 (x49.1)).bind fun x50 =>
 (uncons x49.2).bind fun x51 =>
 (asInt .i64 (x51.1)).bind fun x52 =>
 (isNil x51.2).bind fun x53 =>
 (getRow r0 n6 7).bind fun x54 =>
 (uncons x54).bind fun x55 =>
 (asInt .i64 (x55.1)).bind fun x56 =>
 (uncons x55.2).bind fun x57 =>
 (asInt .u8 (x57.1)).bind fun x58 =>
 (uncons x57.2).bind fun x59 =>
 (asInt .u8 (x59.1)).bind fun x60 =>
 (uncons x59.2).bind fun x61 =>
 (asInt .u8 (x61.1)).bind fun x62 =>
 (uncons x61.2).bind fun x63 =>
 (asInt .u8 (x63.1)).bind fun x64 =>
 (uncons x63.2).bind fun x65 =>
 (asInt .u8 (x65.1)).bind fun x66 =>
 (uncons x65.2).bind fun x67 =>
 (asInt .u8 (x67.1)).bind fun x68 =>
 (isNil x67.2).bind fun x69 =>
 cond (decide (0 ≤ n9)) (
 cond (decide (n9.toNat < 6)) (
 cond (false || ((true && (Nat.beq (1 + (n9.toNat * 1)) 1)) || ((true && (Nat.beq (1 + (n9.toNat * 1)) 2)) || ((true && (Nat.beq (1 + (n9.toNat * 1)) 3)) || ((true && (Nat.beq (1 + (n9.toNat * 1)) 4)) || ((true && (Nat.beq (1 + (n9.toNat * 1)) 5)) || ((true && (Nat.beq (1 + (n9.toNat * 1)) 6)) || false))))))) (
 (nthI [x56, x58, x60, x62, x64, x66, x68] (1 + (n9.toNat * 1))).bind fun x70 =>
 cond (decide (x70 > 0)) (
 (getRow r0 n6 7).bind fun x71 =>
 (uncons x71).bind fun x72 =>
 (asInt .i64 (x72.1)).bind fun x73 =>
 (uncons x72.2).bind fun x74 =>
 (asInt .u8 (x74.1)).bind fun x75 =>
 (uncons x74.2).bind fun x76 =>
 (asInt .u8 (x76.1)).bind fun x77 =>
 (uncons x76.2).bind fun x78 =>
 (asInt .u8 (x78.1)).bind fun x79 =>
 (uncons x78.2).bind fun x80 =>
 (asInt .u8 (x80.1)).bind fun x81 =>
 (uncons x80.2).bind fun x82 =>
 (asInt .u8 (x82.1)).bind fun x83 =>
 (uncons x82.2).bind fun x84 =>
 (asInt .u8 (x84.1)).bind fun x85 =>
 (isNil x84.2).bind fun x86 =>
 cond (decide (0 ≤ n9)) (
 cond (decide (n9.toNat < 6)) (
 cond (false || ((true && (Nat.beq (1 + (n9.toNat * 1)) 1)) || ((true && (Nat.beq (1 + (n9.toNat * 1)) 2)) || ((true && (Nat.beq (1 + (n9.toNat * 1)) 3)) || ((true && (Nat.beq (1 + (n9.toNat * 1)) 4)) || ((true && (Nat.beq (1 + (n9.toNat * 1)) 5)) || ((true && (Nat.beq (1 + (n9.toNat * 1)) 6)) || false))))))) (
 (nthI [x73, x75, x77, x79, x81, x83, x85] (1 + (n9.toNat * 1))).bind fun x87 =>
 (C.p (.func 69) [.agg [.int .i64 x50, .int .i64 x52], .int .i64 (IntKind.wrap .i64 x87)]).bind fun x88 =>
 (asCells (x88)).bind fun x89 =>
 (uncons x89).bind fun x90 =>
 (asInt .i64 (x90.1)).bind fun x91 =>
 (uncons x90.2).bind fun x92 =>
 (asInt .i64 (x92.1)).bind fun x93 =>
 (isNil x92.2).bind fun x94 =>
 (C.p (.func 68) [.agg [.int .i64 n7, .int .i64 n8], .agg [.int .i64 x91, .int .i64 x93]]).bind fun x95 =>
 (asCells (x95)).bind fun x96 =>
 (uncons x96).bind fun x97 =>
 (asInt .i64 (x97.1)).bind fun x98 =>
 (uncons x97.2).bind fun x99 =>
 (asInt .i64 (x99.1)).bind fun x100 =>
 (isNil x99.2).bind fun x101 =>
 some (.normal, (S26_7 r0 r1 n2 n3 n4 n5 n6 x98 x100 (IntKind.wrap .i64 (n9 + 1))))) (
 none)) (
 none)) (
 none)) (
 some (.normal, (S26_7 r0 r1 n2 n3 n4 n5 n6 n7 n8 (IntKind.wrap .i64 (n9 + 1)))))) (
 none)) (
 none)) (
 none)) (
 (getRow r0 n6 7).bind fun x0 =>
 (uncons x0).bind fun x1 =>
 (asInt .i64 (x1.1)).bind fun x2 =>
 (uncons x1.2).bind fun x3 =>
 (asInt .u8 (x3.1)).bind fun x4 =>
 (uncons x3.2).bind fun x5 =>
 (asInt .u8 (x5.1)).bind fun x6 =>
 (uncons x5.2).bind fun x7 =>
 (asInt .u8 (x7.1)).bind fun x8 =>
 (uncons x7.2).bind fun x9 =>
 (asInt .u8 (x9.1)).bind fun x10 =>
 (uncons x9.2).bind fun x11 =>
 (asInt .u8 (x11.1)).bind fun x12 =>
 (uncons x11.2).bind fun x13 =>
 (asInt .u8 (x13.1)).bind fun x14 =>
 (isNil x13.2).bind fun x15 =>
 cond (decide (0 ≤ n9)) (
 cond (decide (n9.toNat < 6)) (
 cond (false || ((true && (Nat.beq (1 + (n9.toNat * 1)) 1)) || ((true && (Nat.beq (1 + (n9.toNat * 1)) 2)) || ((true && (Nat.beq (1 + (n9.toNat * 1)) 3)) || ((true && (Nat.beq (1 + (n9.toNat * 1)) 4)) || ((true && (Nat.beq (1 + (n9.toNat * 1)) 5)) || ((true && (Nat.beq (1 + (n9.toNat * 1)) 6)) || false))))))) (
 (nthI [x2, x4, x6, x8, x10, x12, x14] (1 + (n9.toNat * 1))).bind fun x16 =>
 cond (decide (x16 > 0)) (
 (getRow r0 n6 7).bind fun x17 =>
 (uncons x17).bind fun x18 =>
 (asInt .i64 (x18.1)).bind fun x19 =>
 (uncons x18.2).bind fun x20 =>
 (asInt .u8 (x20.1)).bind fun x21 =>
 (uncons x20.2).bind fun x22 =>
 (asInt .u8 (x22.1)).bind fun x23 =>
 (uncons x22.2).bind fun x24 =>
 (asInt .u8 (x24.1)).bind fun x25 =>
 (uncons x24.2).bind fun x26 =>
 (asInt .u8 (x26.1)).bind fun x27 =>
 (uncons x26.2).bind fun x28 =>
 (asInt .u8 (x28.1)).bind fun x29 =>
 (uncons x28.2).bind fun x30 =>
 (asInt .u8 (x30.1)).bind fun x31 =>
 (isNil x30.2).bind fun x32 =>
 cond (decide (0 ≤ n9)) (
 cond (decide (n9.toNat < 6)) (
 cond (false || ((true && (Nat.beq (1 + (n9.toNat * 1)) 1)) || ((true && (Nat.beq (1 + (n9.toNat * 1)) 2)) || ((true && (Nat.beq (1 + (n9.toNat * 1)) 3)) || ((true && (Nat.beq (1 + (n9.toNat * 1)) 4)) || ((true && (Nat.beq (1 + (n9.toNat * 1)) 5)) || ((true && (Nat.beq (1 + (n9.toNat * 1)) 6)) || false))))))) (
 (nthI [x19, x21, x23, x25, x27, x29, x31] (1 + (n9.toNat * 1))).bind fun x33 =>
 (C.p (.func 69) [.agg [.int .i64 (-65536), .int .i64 65536], .int .i64 (IntKind.wrap .i64 x33)]).bind fun x34 =>
 (asCells (x34)).bind fun x35 =>
 (uncons x35).bind fun x36 =>
 (asInt .i64 (x36.1)).bind fun x37 =>
 (uncons x36.2).bind fun x38 =>
 (asInt .i64 (x38.1)).bind fun x39 =>
 (isNil x38.2).bind fun x40 =>
 (C.p (.func 68) [.agg [.int .i64 n7, .int .i64 n8], .agg [.int .i64 x37, .int .i64 x39]]).bind fun x41 =>
 (asCells (x41)).bind fun x42 =>
 (uncons x42).bind fun x43 =>
 (asInt .i64 (x43.1)).bind fun x44 =>
 (uncons x43.2).bind fun x45 =>
 (asInt .i64 (x45.1)).bind fun x46 =>
 (isNil x45.2).bind fun x47 =>
 some (.normal, (S26_7 r0 r1 n2 n3 n4 n5 n6 x44 x46 (IntKind.wrap .i64 (n9 + 1))))) (
 none)) (
 none)) (
 none)) (
 some (.normal, (S26_7 r0 r1 n2 n3 n4 n5 n6 n7 n8 (IntKind.wrap .i64 (n9 + 1)))))) (
 none)) (
 none)) (
 none))) (
 some ((.exit 2), (S26_7 r0 r1 n2 n3 n4 n5 n6 n7 n8 n9))) := by kernel_rfl
theorem e26_3 (C : CallT) (r0 : List (List V)) (r1 : List (List V)) (n2 : Int) (n3 : Int) (n4 : Int) (n5 : Int) (n6 : Int) : roundK GD LD C 26 none 3 (S26_3 r0 r1 n2 n3 n4 n5 n6) =
 cond (decide (n6 < ((r0.length : Nat) : Int))) (
 (getRow r0 n6 7).bind fun x0 =>
 (uncons x0).bind fun x1 =>
 (asInt .i64 (x1.1)).bind fun x2 =>
 (uncons x1.2).bind fun x3 =>
 (asInt .u8 (x3.1)).bind fun x4 =>
 (uncons x3.2).bind fun x5 =>
 (asInt .u8 (x5.1)).bind fun x6 =>
 (uncons x5.2).bind fun x7 =>
 (asInt .u8 (x7.1)).bind fun x8 =>
 (uncons x7.2).bind fun x9 =>
 (asInt .u8 (x9.1)).bind fun x10 =>
 (uncons x9.2).bind fun x11 =>
 (asInt .u8 (x11.1)).bind fun x12 =>
 (uncons x11.2).bind fun x13 =>
 (asInt .u8 (x13.1)).bind fun x14 =>
 (isNil x13.2).bind fun x15 =>
 (C.p (.func 67) [.int .i64 x2]).bind fun x16 =>
 (asCells (x16)).bind fun x17 =>
 (uncons x17).bind fun x18 =>
 (asInt .i64 (x18.1)).bind fun x19 =>
 (uncons x18.2).bind fun x20 =>
 (asInt .i64 (x20.1)).bind fun x21 =>
 (isNil x20.2).bind fun x22 =>
 (C.w (roundK GD LD C 26 none 7) (S26_7 r0 r1 n2 n3 n4 n5 n6 x19 x21 0)).bind fun x23 =>
 match x23.1 with
 | .normal =>
 none
 | .exit x25 =>
 cond (Nat.beq x25 2) (
 (asRows ((nth x23.2.t 0))).bind fun x26 =>
 (asRows ((nth x23.2.t 1))).bind fun x27 =>
 (asBox ((nth x23.2.t 4))).bind fun x28 =>
 (uncons x28).bind fun x29 =>
 (asInt .i64 (x29.1)).bind fun x30 =>
 (uncons x29.2).bind fun x31 =>
 (asInt .i64 (x31.1)).bind fun x32 =>
 (isNil x31.2).bind fun x33 =>
 (asBox ((nth x23.2.t 5))).bind fun x34 =>
 (uncons x34).bind fun x35 =>
 (asInt .i64 (x35.1)).bind fun x36 =>
 (uncons x35.2).bind fun x37 =>
 (asInt .i64 (x37.1)).bind fun x38 =>
 (isNil x37.2).bind fun x39 =>
 (asInt .i64 ((nth x23.2.t 6))).bind fun x40 =>
 (asBox ((nth x23.2.t 7))).bind fun x41 =>
 (uncons x41).bind fun x42 =>
 (asInt .i64 (x42.1)).bind fun x43 =>
 (uncons x42.2).bind fun x44 =>
 (asInt .i64 (x44.1)).bind fun x45 =>
 (isNil x44.2).bind fun x46 =>
 (asInt .i64 ((nth x23.2.t 8))).bind fun x47 =>
 (C.p (.func 41) [.agg [.int .i64 x36, .int .i64 x38], .agg [.int .i64 x43, .int .i64 x45]]).bind fun x48 =>
 (asCells (x48)).bind fun x49 =>
 (uncons x49).bind fun x50 =>
 (asInt .i64 (x50.1)).bind fun x51 =>
 (uncons x50.2).bind fun x52 =>
 (asInt .i64 (x52.1)).bind fun x53 =>
 (isNil x52.2).bind fun x54 =>
 some (.normal, (S26_3 x26 x27 x30 x32 x51 x53 (IntKind.wrap .i64 (x40 + 1))))) (
 none)
 | .ret =>
 none) (
 some ((.exit 0), (S26_3 r0 r1 n2 n3 n4 n5 n6))) := by kernel_rfl
theorem e26 (C : CallT) (r0 : List (List V)) (r1 : List (List V)) : run1 GD LD C (.func 26) [.slice .any r0, .slice .any r1] [] =
 (C.p (.func 67) [.int .i64 0]).bind fun x0 =>
 (asCells (x0)).bind fun x1 =>
 (uncons x1).bind fun x2 =>
 (asInt .i64 (x2.1)).bind fun x3 =>
 (uncons x2.2).bind fun x4 =>
 (asInt .i64 (x4.1)).bind fun x5 =>
 (isNil x4.2).bind fun x6 =>
 (C.w (roundK GD LD C 26 none 3) (S26_3 r0 r1 0 0 x3 x5 0)).bind fun x7 =>
 match x7.1 with
 | .normal =>
 none
 | .exit x9 =>
 cond (Nat.beq x9 0) (
 (asRows ((nth x7.2.t 0))).bind fun x10 =>
 (asRows ((nth x7.2.t 1))).bind fun x11 =>
 (asBox ((nth x7.2.t 4))).bind fun x12 =>
 (uncons x12).bind fun x13 =>
 (asInt .i64 (x13.1)).bind fun x14 =>
 (uncons x13.2).bind fun x15 =>
 (asInt .i64 (x15.1)).bind fun x16 =>
 (isNil x15.2).bind fun x17 =>
 (asBox ((nth x7.2.t 5))).bind fun x18 =>
 (uncons x18).bind fun x19 =>
 (asInt .i64 (x19.1)).bind fun x20 =>
 (uncons x19.2).bind fun x21 =>
 (asInt .i64 (x21.1)).bind fun x22 =>
 (isNil x21.2).bind fun x23 =>
 (asInt .i64 ((nth x7.2.t 6))).bind fun x24 =>
 some (.agg [.int .i64 x20, .int .i64 x22], [])) (
 none)
 | .ret =>
 none := by kernel_rfl
def S28_3 (p0 : List (List V)) (p1 : Int) (p2 : Int) : St := ⟨(sp 0 20 [(0, .slice .any p0), (3, .int .i64 p1), (4, .int .i64 p2)]), []⟩
theorem e28_3 (C : CallT) (r0 : List (List V)) (n1 : Int) (n2 : Int) : roundK GD LD C 28 none 3 (S28_3 r0 n1 n2) =
 cond (decide (n2 < ((r0.length : Nat) : Int))) (
 (getRow r0 n2 7).bind fun x0 =>
 (uncons x0).bind fun x1 =>
 (asInt .i64 (x1.1)).bind fun x2 =>
 (uncons x1.2).bind fun x3 =>
 (asInt .u8 (x3.1)).bind fun x4 =>
 (uncons x3.2).bind fun x5 =>
 (asInt .u8 (x5.1)).bind fun x6 =>
 (uncons x5.2).bind fun x7 =>
 (asInt .u8 (x7.1)).bind fun x8 =>
 (uncons x7.2).bind fun x9 =>
 (asInt .u8 (x9.1)).bind fun x10 =>
 (uncons x9.2).bind fun x11 =>
 (asInt .u8 (x11.1)).bind fun x12 =>
 (uncons x11.2).bind fun x13 =>
 (asInt .u8 (x13.1)).bind fun x14 =>
 (isNil x13.2).bind fun x15 =>
 (C.p (.func 47) [.agg [.int .u8 x4, .int .u8 x6, .int .u8 x8, .int .u8 x10, .int .u8 x12, .int .u8 x14]]).bind fun x16 =>
 (asInt .i64 (x16)).bind fun x17 =>
 some (.normal, (S28_3 r0 (if x17 > n1 then x17 else n1) (IntKind.wrap .i64 (n2 + 1))))) (
 some ((.exit 0), (S28_3 r0 n1 n2))) := by kernel_rfl
theorem e28 (C : CallT) (r0 : List (List V)) : run1 GD LD C (.func 28) [.slice .any r0] [] =
 (C.w (roundK GD LD C 28 none 3) (S28_3 r0 (-1) 0)).bind fun x0 =>
 match x0.1 with
 | .normal =>
 none
 | .exit x2 =>
 cond (Nat.beq x2 0) (
 (asRows ((nth x0.2.t 0))).bind fun x3 =>
 (asInt .i64 ((nth x0.2.t 3))).bind fun x4 =>
 (asInt .i64 ((nth x0.2.t 4))).bind fun x5 =>
 some (.int .i64 x4, [])) (
 none)
 | .ret =>
 none := by kernel_rfl
theorem e30 (C : CallT) (n0 : Int) : run1 GD LD C (.func 30) [.int .i64 n0] [] =
 cond (n0 == 0) (
 some (.slice .nil [], [])) (
 some (.slice .any [[.int .i64 n0, .int .u8 0, .int .u8 0, .int .u8 0, .int .u8 0, .int .u8 0, .int .u8 0]], [])) := by kernel_rfl
theorem e32 (C : CallT) (n0 : Int) : run1 GD LD C (.func 32) [.int .i64 n0] [] =
 cond (decide (n0 < 0)) (
 some (.slice .nil [], [])) (
 cond (decide (n0 > 5)) (
 some (.slice .nil [], [])) (
 cond (decide (0 ≤ n0)) (
 cond (decide (n0.toNat < 6)) (
 cond (false || ((true && (Nat.beq (1 + (n0.toNat * 1)) 1)) || ((true && (Nat.beq (1 + (n0.toNat * 1)) 2)) || ((true && (Nat.beq (1 + (n0.toNat * 1)) 3)) || ((true && (Nat.beq (1 + (n0.toNat * 1)) 4)) || ((true && (Nat.beq (1 + (n0.toNat * 1)) 5)) || ((true && (Nat.beq (1 + (n0.toNat * 1)) 6)) || false))))))) (
 some (.slice .any [[.int .i64 65536, .int .u8 (cond (Nat.beq (1 + (n0.toNat * 1)) 1) 1 0), .int .u8 (cond (Nat.beq (1 + (n0.toNat * 1)) 2) 1 0), .int .u8 (cond (Nat.beq (1 + (n0.toNat * 1)) 3) 1 0), .int .u8 (cond (Nat.beq (1 + (n0.toNat * 1)) 4) 1 0), .int .u8 (cond (Nat.beq (1 + (n0.toNat * 1)) 5) 1 0), .int .u8 (cond (Nat.beq (1 + (n0.toNat * 1)) 6) 1 0)]], [])) (
 none)) (
 none)) (
 none))) := by kernel_rfl
def S33_3 (p0 : Int) (p1 : Int) (p2 : Int) (p3 : Int) (p4 : Int) (p5 : Int) (p6 : Int) (p7 : Int) (p8 : Int) (p9 : Int) (p10 : Int) (p11 : Int) (p12 : Int) (p13 : Int) (p14 : Int) (p15 : Int) (p16 : Int) (p17 : Int) (p18 : Int) : St := ⟨(sp 0 18 [(1, .box [.int .i8 p0, .int .i8 p1, .int .i8 p2, .int .i8 p3, .int .i8 p4, .int .i8 p5]), (2, .box [.int .i64 p6, .int .i64 p7, .int .i64 p8, .int .i64 p9, .int .i64 p10, .int .i64 p11]), (3, .box [.int .i64 p12, .int .i64 p13, .int .i64 p14, .int .i64 p15, .int .i64 p16, .int .i64 p17]), (4, .int .i64 p18)]), []⟩
theorem e33_3 (C : CallT) (n0 : Int) (n1 : Int) (n2 : Int) (n3 : Int) (n4 : Int) (n5 : Int) (n6 : Int) (n7 : Int) (n8 : Int) (n9 : Int) (n10 : Int) (n11 : Int) (n12 : Int) (n13 : Int) (n14 : Int) (n15 : Int) (n16 : Int) (n17 : Int) (n18 : Int) : roundK GD LD C 33 none 3 (S33_3 n0 n1 n2 n3 n4 n5 n6 n7 n8 n9 n10 n11 n12 n13 n14 n15 n16 n17 n18) =
 cond (decide (n18 < 6)) (
 cond (decide (0 ≤ n18)) (
 cond (decide (n18.toNat < 6)) (
 (nthI [n0, n1, n2, n3, n4, n5] (n18.toNat * 1)).bind fun x0 =>
 cond (decide (0 ≤ n18)) (
 cond (decide (n18.toNat < 6)) (
 cond (Nat.blt (n18.toNat * 1) 6) (
 some (.normal, (S33_3 n0 n1 n2 n3 n4 n5 n6 n7 n8 n9 n10 n11 (cond (Nat.beq (n18.toNat * 1) 0) (Int.tmod (IntKind.wrap .i64 x0) 3) n12) (cond (Nat.beq (n18.toNat * 1) 1) (Int.tmod (IntKind.wrap .i64 x0) 3) n13) (cond (Nat.beq (n18.toNat * 1) 2) (Int.tmod (IntKind.wrap .i64 x0) 3) n14) (cond (Nat.beq (n18.toNat * 1) 3) (Int.tmod (IntKind.wrap .i64 x0) 3) n15) (cond (Nat.beq (n18.toNat * 1) 4) (Int.tmod (IntKind.wrap .i64 x0) 3) n16) (cond (Nat.beq (n18.toNat * 1) 5) (Int.tmod (IntKind.wrap .i64 x0) 3) n17) (IntKind.wrap .i64 (n18 + 1))))) (
 none)) (
 none)) (
 none)) (
 none)) (
 none)) (
 some ((.exit 0), (S33_3 n0 n1 n2 n3 n4 n5 n6 n7 n8 n9 n10 n11 n12 n13 n14 n15 n16 n17 n18))) := by kernel_rfl
theorem e33 (C : CallT) (n0 : Int) (n1 : Int) (n2 : Int) (n3 : Int) (n4 : Int) (n5 : Int) : run1 GD LD C (.func 33) [.agg [.int .i8 n0, .int .i8 n1, .int .i8 n2, .int .i8 n3, .int .i8 n4, .int .i8 n5]] [] =
 (C.w (roundK GD LD C 33 none 3) (S33_3 n0 n1 n2 n3 n4 n5 0 0 0 0 0 0 0 0 0 0 0 0 0)).bind fun x0 =>
 match x0.1 with
 | .normal =>
 none
 | .exit x2 =>
 cond (Nat.beq x2 0) (
 (asBox ((nth x0.2.t 1))).bind fun x3 =>
 (uncons x3).bind fun x4 =>
 (asInt .i8 (x4.1)).bind fun x5 =>
 (uncons x4.2).bind fun x6 =>
 (asInt .i8 (x6.1)).bind fun x7 =>
 (uncons x6.2).bind fun x8 =>
 (asInt .i8 (x8.1)).bind fun x9 =>
 (uncons x8.2).bind fun x10 =>
 (asInt .i8 (x10.1)).bind fun x11 =>
 (uncons x10.2).bind fun x12 =>
 (asInt .i8 (x12.1)).bind fun x13 =>
 (uncons x12.2).bind fun x14 =>
 (asInt .i8 (x14.1)).bind fun x15 =>
 (isNil x14.2).bind fun x16 =>
 (asBox ((nth x0.2.t 2))).bind fun x17 =>
 (uncons x17).bind fun x18 =>
 (asInt .i64 (x18.1)).bind fun x19 =>
 (uncons x18.2).bind fun x20 =>
 (asInt .i64 (x20.1)).bind fun x21 =>
 (uncons x20.2).bind fun x22 =>
 (asInt .i64 (x22.1)).bind fun x23 =>
 (uncons x22.2).bind fun x24 =>
 (asInt .i64 (x24.1)).bind fun x25 =>
 (uncons x24.2).bind fun x26 =>
 (asInt .i64 (x26.1)).bind fun x27 =>
 (uncons x26.2).bind fun x28 =>
 (asInt .i64 (x28.1)).bind fun x29 =>
 (isNil x28.2).bind fun x30 =>
 (asBox ((nth x0.2.t 3))).bind fun x31 =>
 (uncons x31).bind fun x32 =>
 (asInt .i64 (x32.1)).bind fun x33 =>
 (uncons x32.2).bind fun x34 =>
 (asInt .i64 (x34.1)).bind fun x35 =>
 (uncons x34.2).bind fun x36 =>
 (asInt .i64 (x36.1)).bind fun x37 =>
 (uncons x36.2).bind fun x38 =>
 (asInt .i64 (x38.1)).bind fun x39 =>
 (uncons x38.2).bind fun x40 =>
 (asInt .i64 (x40.1)).bind fun x41 =>
 (uncons x40.2).bind fun x42 =>
 (asInt .i64 (x42.1)).bind fun x43 =>
 (isNil x42.2).bind fun x44 =>
 (asInt .i64 ((nth x0.2.t 4))).bind fun x45 =>
 some (.agg [.int .i64 x33, .int .i64 x35, .int .i64 x37, .int .i64 x39, .int .i64 x41, .int .i64 x43], [])) (
 none)
 | .ret =>
 none := by kernel_rfl
def S36_3 (p0 : List (List V)) (p1 : Int) (p2 : Int) (p3 : Int) (p4 : Int) (p5 : Int) (p6 : Int) (p7 : Int) (p8 : Int) : St := ⟨(sp 0 59 [(0, .slice .any p0), (3, .box [.int .i64 p1, .int .i64 p2, .int .i64 p3, .int .i64 p4, .int .i64 p5, .int .i64 p6]), (5, .int .i64 p7), (6, .int .i64 p8)]), []⟩
def S36_7 (p0 : List (List V)) (p1 : Int) (p2 : Int) (p3 : Int) (p4 : Int) (p5 : Int) (p6 : Int) (p7 : Int) (p8 : Int) (p9 : Int) (p10 : Int) : St := ⟨(sp 0 59 [(0, .slice .any p0), (3, .box [.int .i64 p1, .int .i64 p2, .int .i64 p3, .int .i64 p4, .int .i64 p5, .int .i64 p6]), (5, .int .i64 p7), (6, .int .i64 p8), (7, .int .i64 p9), (8, .int .i64 p10)]), []⟩
def S36_10 (p0 : List (List V)) (p1 : Int) (p2 : Int) (p3 : Int) (p4 : Int) (p5 : Int) (p6 : Int) (p7 : Int) (p8 : Int) (p9 : Int) (p10 : Int) (p11 : Int) : St := ⟨(sp 0 59 [(0, .slice .any p0), (3, .box [.int .i64 p1, .int .i64 p2, .int .i64 p3, .int .i64 p4, .int .i64 p5, .int .i64 p6]), (5, .int .i64 p7), (6, .int .i64 p8), (7, .int .i64 p9), (8, .int .i64 p10), (9, .int .i64 p11)]), []⟩
def S36_14 (p0 : List (List V)) (p1 : Int) (p2 : Int) (p3 : Int) (p4 : Int) (p5 : Int) (p6 : Int) (p7 : Int) (p8 : Int) (p9 : Int) (p10 : Int) : St := ⟨(sp 0 59 [(0, .slice .any p0), (3, .box [.int .i64 p1, .int .i64 p2, .int .i64 p3, .int .i64 p4, .int .i64 p5, .int .i64 p6]), (5, .int .i64 p7), (6, .int .i64 p8), (7, .int .i64 p9), (10, .int .i64 p10)]), []⟩
theorem e36_14 (C : CallT) (r0 : List (List V)) (n1 : Int) (n2 : Int) (n3 : Int) (n4 : Int) (n5 : Int) (n6 : Int) (n7 : Int) (n8 : Int) (n9 : Int) (n10 : Int) : roundK GD LD C 36 none 14 (S36_14 r0 n1 n2 n3 n4 n5 n6 n7 n8 n9 n10) =
 cond (decide (n10 < 12)) (
 some (.normal, (S36_14 r0 n1 n2 n3 n4 n5 n6 n7 n8 (IntKind.wrap .i64 (n9 * 2)) (IntKind.wrap .i64 (n10 + 1))))) (
 some ((.exit 6), (S36_14 r0 n1 n2 n3 n4 n5 n6 n7 n8 n9 n10))) := by kernel_rfl
theorem e36_10 (C : CallT) (r0 : List (List V)) (n1 : Int) (n2 : Int) (n3 : Int) (n4 : Int) (n5 : Int) (n6 : Int) (n7 : Int) (n8 : Int) (n9 : Int) (n10 : Int) (n11 : Int) : roundK GD LD C 36 none 10 (S36_10 r0 n1 n2 n3 n4 n5 n6 n7 n8 n9 n10 n11) =
 (getRow r0 n8 7).bind fun x0 =>
 (uncons x0).bind fun x1 =>
 (asInt .i64 (x1.1)).bind fun x2 =>
 (uncons x1.2).bind fun x3 =>
 (asInt .u8 (x3.1)).bind fun x4 =>
 (uncons x3.2).bind fun x5 =>
 (asInt .u8 (x5.1)).bind fun x6 =>
 (uncons x5.2).bind fun x7 =>
 (asInt .u8 (x7.1)).bind fun x8 =>
 (uncons x7.2).bind fun x9 =>
 (asInt .u8 (x9.1)).bind fun x10 =>
 (uncons x9.2).bind fun x11 =>
 (asInt .u8 (x11.1)).bind fun x12 =>
 (uncons x11.2).bind fun x13 =>
 (asInt .u8 (x13.1)).bind fun x14 =>
 (isNil x13.2).bind fun x15 =>
 cond (decide (0 ≤ n10)) (
 cond (decide (n10.toNat < 6)) (
 cond (false || ((true && (Nat.beq (1 + (n10.toNat * 1)) 1)) || ((true && (Nat.beq (1 + (n10.toNat * 1)) 2)) || ((true && (Nat.beq (1 + (n10.toNat * 1)) 3)) || ((true && (Nat.beq (1 + (n10.toNat * 1)) 4)) || ((true && (Nat.beq (1 + (n10.toNat * 1)) 5)) || ((true && (Nat.beq (1 + (n10.toNat * 1)) 6)) || false))))))) (
 (nthI [x2, x4, x6, x8, x10, x12, x14] (1 + (n10.toNat * 1))).bind fun x16 =>
 cond (decide (n11 < (IntKind.wrap .i64 x16))) (
 cond (decide (0 ≤ n10)) (
 cond (decide (n10.toNat < 6)) (
 (nthI [n1, n2, n3, n4, n5, n6] (n10.toNat * 1)).bind fun x17 =>
 some (.normal, (S36_10 r0 n1 n2 n3 n4 n5 n6 n7 n8 (IntKind.wrap .i64 (n9 * x17)) n10 (IntKind.wrap .i64 (n11 + 1))))) (
 none)) (
 none)) (
 some ((.exit 4), (S36_10 r0 n1 n2 n3 n4 n5 n6 n7 n8 n9 n10 n11)))) (
 none)) (
 none)) (
 none) := by kernel_rfl
theorem e36_7 (C : CallT) (r0 : List (List V)) (n1 : Int) (n2 : Int) (n3 : Int) (n4 : Int) (n5 : Int) (n6 : Int) (n7 : Int) (n8 : Int) (n9 : Int) (n10 : Int) : roundK GD LD C 36 none 7 (S36_7 r0 n1 n2 n3 n4 n5 n6 n7 n8 n9 n10) =
 cond (decide (n10 < 6)) (
 (C.w (roundK GD LD C 36 none 10) (S36_10 r0 n1 n2 n3 n4 n5 n6 n7 n8 n9 n10 0)).bind fun x0 =>
 match x0.1 with
 | .normal =>
 none
 | .exit x2 =>
 cond (Nat.beq x2 4) (
 (asRows ((nth x0.2.t 0))).bind fun x3 =>
 (asBox ((nth x0.2.t 3))).bind fun x4 =>
 (uncons x4).bind fun x5 =>
 (asInt .i64 (x5.1)).bind fun x6 =>
 (uncons x5.2).bind fun x7 =>
 (asInt .i64 (x7.1)).bind fun x8 =>
 (uncons x7.2).bind fun x9 =>
 (asInt .i64 (x9.1)).bind fun x10 =>
 (uncons x9.2).bind fun x11 =>
 (asInt .i64 (x11.1)).bind fun x12 =>
 (uncons x11.2).bind fun x13 =>
 (asInt .i64 (x13.1)).bind fun x14 =>
 (uncons x13.2).bind fun x15 =>
 (asInt .i64 (x15.1)).bind fun x16 =>
 (isNil x15.2).bind fun x17 =>
 (asInt .i64 ((nth x0.2.t 5))).bind fun x18 =>
 (asInt .i64 ((nth x0.2.t 6))).bind fun x19 =>
 (asInt .i64 ((nth x0.2.t 7))).bind fun x20 =>
 (asInt .i64 ((nth x0.2.t 8))).bind fun x21 =>
 (asInt .i64 ((nth x0.2.t 9))).bind fun x22 =>
 some (.normal, (S36_7 x3 x6 x8 x10 x12 x14 x16 x18 x19 x20 (IntKind.wrap .i64 (x21 + 1))))) (
 none)
 | .ret =>
 none) (
 some ((.exit 2), (S36_7 r0 n1 n2 n3 n4 n5 n6 n7 n8 n9 n10))) := by kernel_rfl
theorem e36_3 (C : CallT) (r0 : List (List V)) (n1 : Int) (n2 : Int) (n3 : Int) (n4 : Int) (n5 : Int) (n6 : Int) (n7 : Int) (n8 : Int) : roundK GD LD C 36 none 3 (S36_3 r0 n1 n2 n3 n4 n5 n6 n7 n8) =
 cond (decide (n8 < ((r0.length : Nat) : Int))) (
 (getRow r0 n8 7).bind fun x0 =>
 (uncons x0).bind fun x1 =>
 (asInt .i64 (x1.1)).bind fun x2 =>
 (uncons x1.2).bind fun x3 =>
 (asInt .u8 (x3.1)).bind fun x4 =>
 (uncons x3.2).bind fun x5 =>
 (asInt .u8 (x5.1)).bind fun x6 =>
 (uncons x5.2).bind fun x7 =>
 (asInt .u8 (x7.1)).bind fun x8 =>
 (uncons x7.2).bind fun x9 =>
 (asInt .u8 (x9.1)).bind fun x10 =>
 (uncons x9.2).bind fun x11 =>
 (asInt .u8 (x11.1)).bind fun x12 =>
 (uncons x11.2).bind fun x13 =>
 (asInt .u8 (x13.1)).bind fun x14 =>
 (isNil x13.2).bind fun x15 =>
 (C.w (roundK GD LD C 36 none 7) (S36_7 r0 n1 n2 n3 n4 n5 n6 n7 n8 x2 0)).bind fun x16 =>
 match x16.1 with
 | .normal =>
 none
 | .exit x18 =>
 cond (Nat.beq x18 2) (
 (asRows ((nth x16.2.t 0))).bind fun x19 =>
 (asBox ((nth x16.2.t 3))).bind fun x20 =>
 (uncons x20).bind fun x21 =>
 (asInt .i64 (x21.1)).bind fun x22 =>
 (uncons x21.2).bind fun x23 =>
 (asInt .i64 (x23.1)).bind fun x24 =>
 (uncons x23.2).bind fun x25 =>
 (asInt .i64 (x25.1)).bind fun x26 =>
 (uncons x25.2).bind fun x27 =>
 (asInt .i64 (x27.1)).bind fun x28 =>
 (uncons x27.2).bind fun x29 =>
 (asInt .i64 (x29.1)).bind fun x30 =>
 (uncons x29.2).bind fun x31 =>
 (asInt .i64 (x31.1)).bind fun x32 =>
 (isNil x31.2).bind fun x33 =>
 (asInt .i64 ((nth x16.2.t 5))).bind fun x34 =>
 (asInt .i64 ((nth x16.2.t 6))).bind fun x35 =>
 (asInt .i64 ((nth x16.2.t 7))).bind fun x36 =>
 (asInt .i64 ((nth x16.2.t 8))).bind fun x37 =>
 (getRow x19 x35 7).bind fun x38 =>
 (uncons x38).bind fun x39 =>
 (asInt .i64 (x39.1)).bind fun x40 =>
 (uncons x39.2).bind fun x41 =>
 (asInt .u8 (x41.1)).bind fun x42 =>
 (uncons x41.2).bind fun x43 =>
 (asInt .u8 (x43.1)).bind fun x44 =>
 (uncons x43.2).bind fun x45 =>
 (asInt .u8 (x45.1)).bind fun x46 =>
 (uncons x45.2).bind fun x47 =>
 (asInt .u8 (x47.1)).bind fun x48 =>
 (uncons x47.2).bind fun x49 =>
 (asInt .u8 (x49.1)).bind fun x50 =>
 (uncons x49.2).bind fun x51 =>
 (asInt .u8 (x51.1)).bind fun x52 =>
 (isNil x51.2).bind fun x53 =>
 (C.p (.func 47) [.agg [.int .u8 x42, .int .u8 x44, .int .u8 x46, .int .u8 x48, .int .u8 x50, .int .u8 x52]]).bind fun x54 =>
 (asInt .i64 (x54)).bind fun x55 =>
 (C.w (roundK GD LD C 36 none 14) (S36_14 x19 x22 x24 x26 x28 x30 x32 x34 x35 x36 x55)).bind fun x56 =>
 match x56.1 with
 | .normal =>
 none
 | .exit x58 =>
 cond (Nat.beq x58 6) (
 (asRows ((nth x56.2.t 0))).bind fun x59 =>
 (asBox ((nth x56.2.t 3))).bind fun x60 =>
 (uncons x60).bind fun x61 =>
 (asInt .i64 (x61.1)).bind fun x62 =>
 (uncons x61.2).bind fun x63 =>
 (asInt .i64 (x63.1)).bind fun x64 =>
 (uncons x63.2).bind fun x65 =>
 (asInt .i64 (x65.1)).bind fun x66 =>
 (uncons x65.2).bind fun x67 =>
 (asInt .i64 (x67.1)).bind fun x68 =>
 (uncons x67.2).bind fun x69 =>
 (asInt .i64 (x69.1)).bind fun x70 =>
 (uncons x69.2).bind fun x71 =>
 (asInt .i64 (x71.1)).bind fun x72 =>
 (isNil x71.2).bind fun x73 =>
 (asInt .i64 ((nth x56.2.t 5))).bind fun x74 =>
 (asInt .i64 ((nth x56.2.t 6))).bind fun x75 =>
 (asInt .i64 ((nth x56.2.t 7))).bind fun x76 =>
 (asInt .i64 ((nth x56.2.t 10))).bind fun x77 =>
 some (.normal, (S36_3 x59 x62 x64 x66 x68 x70 x72 (IntKind.wrap .i64 (x74 + x76)) (IntKind.wrap .i64 (x75 + 1))))) (
 none)
 | .ret =>
 none) (
 none)
 | .ret =>
 none) (
 some ((.exit 0), (S36_3 r0 n1 n2 n3 n4 n5 n6 n7 n8))) := by kernel_rfl
theorem e36 (C : CallT) (r0 : List (List V)) (n1 : Int) (n2 : Int) (n3 : Int) (n4 : Int) (n5 : Int) (n6 : Int) : run1 GD LD C (.func 36) [.slice .any r0, .agg [.int .i64 n1, .int .i64 n2, .int .i64 n3, .int .i64 n4, .int .i64 n5, .int .i64 n6]] [] =
 (C.w (roundK GD LD C 36 none 3) (S36_3 r0 n1 n2 n3 n4 n5 n6 0 0)).bind fun x0 =>
 match x0.1 with
 | .normal =>
 none
 | .exit x2 =>
 cond (Nat.beq x2 0) (
 (asRows ((nth x0.2.t 0))).bind fun x3 =>
 (asBox ((nth x0.2.t 3))).bind fun x4 =>
 (uncons x4).bind fun x5 =>
 (asInt .i64 (x5.1)).bind fun x6 =>
 (uncons x5.2).bind fun x7 =>
 (asInt .i64 (x7.1)).bind fun x8 =>
 (uncons x7.2).bind fun x9 =>
 (asInt .i64 (x9.1)).bind fun x10 =>
 (uncons x9.2).bind fun x11 =>
 (asInt .i64 (x11.1)).bind fun x12 =>
 (uncons x11.2).bind fun x13 =>
 (asInt .i64 (x13.1)).bind fun x14 =>
 (uncons x13.2).bind fun x15 =>
 (asInt .i64 (x15.1)).bind fun x16 =>
 (isNil x15.2).bind fun x17 =>
 (asInt .i64 ((nth x0.2.t 5))).bind fun x18 =>
 (asInt .i64 ((nth x0.2.t 6))).bind fun x19 =>
 some (.int .i64 x18, [])) (
 none)
 | .ret =>
 none := by kernel_rfl
def S49_3 (p0 : List (List V)) (p1 : Int) (p2 : Int) (p3 : List (List V)) (p4 : Int) : St := ⟨(sp 0 70 [(0, .slice .any p0), (1, .int .i64 p1), (2, .int .i64 p2), (7, .slice .any p3), (8, .int .i64 p4)]), []⟩
def S49_7 (p0 : List (List V)) (p1 : Int) (p2 : Int) (p3 : List (List V)) (p4 : Int) (p5 : Int) (p6 : Int) (p7 : Int) (p8 : Int) (p9 : Int) (p10 : Int) (p11 : Int) (p12 : Int) (p13 : Int) : St := ⟨(sp 0 70 [(0, .slice .any p0), (1, .int .i64 p1), (2, .int .i64 p2), (7, .slice .any p3), (8, .int .i64 p4), (9, .box [.int .i64 p5, .int .u8 p6, .int .u8 p7, .int .u8 p8, .int .u8 p9, .int .u8 p10, .int .u8 p11]), (10, .int .i64 p12), (11, .int .i64 p13)]), []⟩
theorem e49_7 (C : CallT) (r0 : List (List V)) (n1 : Int) (n2 : Int) (r3 : List (List V)) (n4 : Int) (n5 : Int) (n6 : Int) (n7 : Int) (n8 : Int) (n9 : Int) (n10 : Int) (n11 : Int) (n12 : Int) (n13 : Int) : roundK GD LD C 49 none 7 (S49_7 r0 n1 n2 r3 n4 n5 n6 n7 n8 n9 n10 n11 n12 n13) =
 cond (decide (n13 < 6)) (
 (getRow r0 n4 7).bind fun x0 =>
 (uncons x0).bind fun x1 =>
 (asInt .i64 (x1.1)).bind fun x2 =>
 (uncons x1.2).bind fun x3 =>
 (asInt .u8 (x3.1)).bind fun x4 =>
 (uncons x3.2).bind fun x5 =>
 (asInt .u8 (x5.1)).bind fun x6 =>
 (uncons x5.2).bind fun x7 =>
 (asInt .u8 (x7.1)).bind fun x8 =>
 (uncons x7.2).bind fun x9 =>
 (asInt .u8 (x9.1)).bind fun x10 =>
 (uncons x9.2).bind fun x11 =>
 (asInt .u8 (x11.1)).bind fun x12 =>
 (uncons x11.2).bind fun x13 =>
 (asInt .u8 (x13.1)).bind fun x14 =>
 (isNil x13.2).bind fun x15 =>
 cond (decide (0 ≤ n13)) (
 cond (decide (n13.toNat < 6)) (
 cond (false || ((true && (Nat.beq (1 + (n13.toNat * 1)) 1)) || ((true && (Nat.beq (1 + (n13.toNat * 1)) 2)) || ((true && (Nat.beq (1 + (n13.toNat * 1)) 3)) || ((true && (Nat.beq (1 + (n13.toNat * 1)) 4)) || ((true && (Nat.beq (1 + (n13.toNat * 1)) 5)) || ((true && (Nat.beq (1 + (n13.toNat * 1)) 6)) || false))))))) (
 (nthI [x2, x4, x6, x8, x10, x12, x14] (1 + (n13.toNat * 1))).bind fun x16 =>
 cond ((IntKind.wrap .u8 (IntKind.wrap .i64 (n12 + 1))) == 0) (
 none) (
 cond (decide (0 ≤ n13)) (
 cond (decide (n13.toNat < 6)) (
 cond (false || ((true && (Nat.beq (1 + (n13.toNat * 1)) 1)) || ((true && (Nat.beq (1 + (n13.toNat * 1)) 2)) || ((true && (Nat.beq (1 + (n13.toNat * 1)) 3)) || ((true && (Nat.beq (1 + (n13.toNat * 1)) 4)) || ((true && (Nat.beq (1 + (n13.toNat * 1)) 5)) || ((true && (Nat.beq (1 + (n13.toNat * 1)) 6)) || false))))))) (
 cond (decide (0 ≤ n13)) (
 cond (decide (n13.toNat < 6)) (
 cond (false || ((true && (Nat.beq (1 + (n13.toNat * 1)) 1)) || ((true && (Nat.beq (1 + (n13.toNat * 1)) 2)) || ((true && (Nat.beq (1 + (n13.toNat * 1)) 3)) || ((true && (Nat.beq (1 + (n13.toNat * 1)) 4)) || ((true && (Nat.beq (1 + (n13.toNat * 1)) 5)) || ((true && (Nat.beq (1 + (n13.toNat * 1)) 6)) || false))))))) (
 (nthI [n5, (cond (Nat.beq (1 + (n13.toNat * 1)) 1) (Int.tmod (Int.tmod x16 7) (IntKind.wrap .u8 (IntKind.wrap .i64 (n12 + 1)))) n6), (cond (Nat.beq (1 + (n13.toNat * 1)) 2) (Int.tmod (Int.tmod x16 7) (IntKind.wrap .u8 (IntKind.wrap .i64 (n12 + 1)))) n7), (cond (Nat.beq (1 + (n13.toNat * 1)) 3) (Int.tmod (Int.tmod x16 7) (IntKind.wrap .u8 (IntKind.wrap .i64 (n12 + 1)))) n8), (cond (Nat.beq (1 + (n13.toNat * 1)) 4) (Int.tmod (Int.tmod x16 7) (IntKind.wrap .u8 (IntKind.wrap .i64 (n12 + 1)))) n9), (cond (Nat.beq (1 + (n13.toNat * 1)) 5) (Int.tmod (Int.tmod x16 7) (IntKind.wrap .u8 (IntKind.wrap .i64 (n12 + 1)))) n10), (cond (Nat.beq (1 + (n13.toNat * 1)) 6) (Int.tmod (Int.tmod x16 7) (IntKind.wrap .u8 (IntKind.wrap .i64 (n12 + 1)))) n11)] (1 + (n13.toNat * 1))).bind fun x17 =>
 some (.normal, (S49_7 r0 n1 n2 r3 n4 n5 (cond (Nat.beq (1 + (n13.toNat * 1)) 1) (Int.tmod (Int.tmod x16 7) (IntKind.wrap .u8 (IntKind.wrap .i64 (n12 + 1)))) n6) (cond (Nat.beq (1 + (n13.toNat * 1)) 2) (Int.tmod (Int.tmod x16 7) (IntKind.wrap .u8 (IntKind.wrap .i64 (n12 + 1)))) n7) (cond (Nat.beq (1 + (n13.toNat * 1)) 3) (Int.tmod (Int.tmod x16 7) (IntKind.wrap .u8 (IntKind.wrap .i64 (n12 + 1)))) n8) (cond (Nat.beq (1 + (n13.toNat * 1)) 4) (Int.tmod (Int.tmod x16 7) (IntKind.wrap .u8 (IntKind.wrap .i64 (n12 + 1)))) n9) (cond (Nat.beq (1 + (n13.toNat * 1)) 5) (Int.tmod (Int.tmod x16 7) (IntKind.wrap .u8 (IntKind.wrap .i64 (n12 + 1)))) n10) (cond (Nat.beq (1 + (n13.toNat * 1)) 6) (Int.tmod (Int.tmod x16 7) (IntKind.wrap .u8 (IntKind.wrap .i64 (n12 + 1)))) n11) (IntKind.wrap .i64 (n12 - (IntKind.wrap .i64 x17))) (IntKind.wrap .i64 (n13 + 1))))) (
 none)) (
 none)) (
 none)) (
 none)) (
 none)) (
 none))) (
 none)) (
 none)) (
 none)) (
 some ((.exit 2), (S49_7 r0 n1 n2 r3 n4 n5 n6 n7 n8 n9 n10 n11 n12 n13))) := by kernel_rfl
theorem e49_3 (C : CallT) (r0 : List (List V)) (n1 : Int) (n2 : Int) (r3 : List (List V)) (n4 : Int) : roundK GD LD C 49 none 3 (S49_3 r0 n1 n2 r3 n4) =
 cond (decide (n4 < ((r0.length : Nat) : Int))) (
 cond (decide (((r3.length : Nat) : Int) < n1)) (
 (getRow r0 n4 7).bind fun x0 =>
 (uncons x0).bind fun x1 =>
 (asInt .i64 (x1.1)).bind fun x2 =>
 (uncons x1.2).bind fun x3 =>
 (asInt .u8 (x3.1)).bind fun x4 =>
 (uncons x3.2).bind fun x5 =>
 (asInt .u8 (x5.1)).bind fun x6 =>
 (uncons x5.2).bind fun x7 =>
 (asInt .u8 (x7.1)).bind fun x8 =>
 (uncons x7.2).bind fun x9 =>
 (asInt .u8 (x9.1)).bind fun x10 =>
 (uncons x9.2).bind fun x11 =>
 (asInt .u8 (x11.1)).bind fun x12 =>
 (uncons x11.2).bind fun x13 =>
 (asInt .u8 (x13.1)).bind fun x14 =>
 (isNil x13.2).bind fun x15 =>
 cond (n2 == 0) (
 none) (
 (C.w (roundK GD LD C 49 none 7) (S49_7 r0 n1 n2 r3 n4 (Int.tmod x2 n2) 0 0 0 0 0 0 6 0)).bind fun x16 =>
 match x16.1 with
 | .normal =>
 none
 | .exit x18 =>
 cond (Nat.beq x18 2) (
 (asRows ((nth x16.2.t 0))).bind fun x19 =>
 (asInt .i64 ((nth x16.2.t 1))).bind fun x20 =>
 (asInt .i64 ((nth x16.2.t 2))).bind fun x21 =>
 (asRows ((nth x16.2.t 7))).bind fun x22 =>
 (asInt .i64 ((nth x16.2.t 8))).bind fun x23 =>
 (asBox ((nth x16.2.t 9))).bind fun x24 =>
 (uncons x24).bind fun x25 =>
 (asInt .i64 (x25.1)).bind fun x26 =>
 (uncons x25.2).bind fun x27 =>
 (asInt .u8 (x27.1)).bind fun x28 =>
 (uncons x27.2).bind fun x29 =>
 (asInt .u8 (x29.1)).bind fun x30 =>
 (uncons x29.2).bind fun x31 =>
 (asInt .u8 (x31.1)).bind fun x32 =>
 (uncons x31.2).bind fun x33 =>
 (asInt .u8 (x33.1)).bind fun x34 =>
 (uncons x33.2).bind fun x35 =>
 (asInt .u8 (x35.1)).bind fun x36 =>
 (uncons x35.2).bind fun x37 =>
 (asInt .u8 (x37.1)).bind fun x38 =>
 (isNil x37.2).bind fun x39 =>
 (asInt .i64 ((nth x16.2.t 10))).bind fun x40 =>
 (asInt .i64 ((nth x16.2.t 11))).bind fun x41 =>
 cond (x26 != 0) (
 (C.p (.func 53) [.slice .any x22, .agg [.int .i64 x26, .int .u8 x28, .int .u8 x30, .int .u8 x32, .int .u8 x34, .int .u8 x36, .int .u8 x38]]).bind fun x42 =>
 (asRows (x42)).bind fun x43 =>
 (C.p (.func 10) [.slice .any x43]).bind fun x44 =>
 (asBool (x44)).bind fun x45 =>
 cond x45 (
 some (.normal, (S49_3 x19 x20 x21 x43 (IntKind.wrap .i64 (x23 + 1))))) (
 some (.normal, (S49_3 x19 x20 x21 x22 (IntKind.wrap .i64 (x23 + 1)))))) (
 some (.normal, (S49_3 x19 x20 x21 x22 (IntKind.wrap .i64 (x23 + 1)))))) (
 none)
 | .ret =>
 none)) (
 some ((.exit 0), (S49_3 r0 n1 n2 r3 n4)))) (
 some ((.exit 0), (S49_3 r0 n1 n2 r3 n4))) := by kernel_rfl
theorem e49 (C : CallT) (r0 : List (List V)) (n1 : Int) (n2 : Int) : run1 GD LD C (.func 49) [.slice .any r0, .int .i64 n1, .int .i64 n2] [] =
 (C.w (roundK GD LD C 49 none 3) (S49_3 r0 n1 n2 [] 0)).bind fun x0 =>
 match x0.1 with
 | .normal =>
 none
 | .exit x2 =>
 cond (Nat.beq x2 0) (
 (asRows ((nth x0.2.t 0))).bind fun x3 =>
 (asInt .i64 ((nth x0.2.t 1))).bind fun x4 =>
 (asInt .i64 ((nth x0.2.t 2))).bind fun x5 =>
 (asRows ((nth x0.2.t 7))).bind fun x6 =>
 (asInt .i64 ((nth x0.2.t 8))).bind fun x7 =>
 some (.slice .any x6, [])) (
 none)
 | .ret =>
 none := by kernel_rfl
def S47_3 (p0 : Int) (p1 : Int) (p2 : Int) (p3 : Int) (p4 : Int) (p5 : Int) (p6 : Int) (p7 : Int) : St := ⟨(sp 0 16 [(1, .box [.int .u8 p0, .int .u8 p1, .int .u8 p2, .int .u8 p3, .int .u8 p4, .int .u8 p5]), (3, .int .i64 p6), (4, .int .i64 p7)]), []⟩
theorem e47_3 (C : CallT) (n0 : Int) (n1 : Int) (n2 : Int) (n3 : Int) (n4 : Int) (n5 : Int) (n6 : Int) (n7 : Int) : roundK GD LD C 47 none 3 (S47_3 n0 n1 n2 n3 n4 n5 n6 n7) =
 cond (decide (n7 < 6)) (
 cond (decide (0 ≤ n7)) (
 cond (decide (n7.toNat < 6)) (
 (nthI [n0, n1, n2, n3, n4, n5] (n7.toNat * 1)).bind fun x0 =>
 some (.normal, (S47_3 n0 n1 n2 n3 n4 n5 (IntKind.wrap .i64 (n6 + (IntKind.wrap .i64 x0))) (IntKind.wrap .i64 (n7 + 1))))) (
 none)) (
 none)) (
 some ((.exit 0), (S47_3 n0 n1 n2 n3 n4 n5 n6 n7))) := by kernel_rfl
theorem e47 (C : CallT) (n0 : Int) (n1 : Int) (n2 : Int) (n3 : Int) (n4 : Int) (n5 : Int) : run1 GD LD C (.func 47) [.agg [.int .u8 n0, .int .u8 n1, .int .u8 n2, .int .u8 n3, .int .u8 n4, .int .u8 n5]] [] =
 (C.w (roundK GD LD C 47 none 3) (S47_3 n0 n1 n2 n3 n4 n5 0 0)).bind fun x0 =>
 match x0.1 with
 | .normal =>
 none
 | .exit x2 =>
 cond (Nat.beq x2 0) (
 (asBox ((nth x0.2.t 1))).bind fun x3 =>
 (uncons x3).bind fun x4 =>
 (asInt .u8 (x4.1)).bind fun x5 =>
 (uncons x4.2).bind fun x6 =>
 (asInt .u8 (x6.1)).bind fun x7 =>
 (uncons x6.2).bind fun x8 =>
 (asInt .u8 (x8.1)).bind fun x9 =>
 (uncons x8.2).bind fun x10 =>
 (asInt .u8 (x10.1)).bind fun x11 =>
 (uncons x10.2).bind fun x12 =>
 (asInt .u8 (x12.1)).bind fun x13 =>
 (uncons x12.2).bind fun x14 =>
 (asInt .u8 (x14.1)).bind fun x15 =>
 (isNil x14.2).bind fun x16 =>
 (asInt .i64 ((nth x0.2.t 3))).bind fun x17 =>
 (asInt .i64 ((nth x0.2.t 4))).bind fun x18 =>
 some (.int .i64 x17, [])) (
 none)
 | .ret =>
 none := by kernel_rfl
def S48_2 (p0 : Int) (p1 : Int) (p2 : Int) (p3 : Int) (p4 : Int) (p5 : Int) (p6 : Int) (p7 : Int) (p8 : Int) (p9 : Int) (p10 : Int) (p11 : Int) (p12 : Int) (p13 : Int) : St := ⟨(sp 0 24 [(2, .box [.int .u8 p0, .int .u8 p1, .int .u8 p2, .int .u8 p3, .int .u8 p4, .int .u8 p5]), (3, .box [.int .u8 p6, .int .u8 p7, .int .u8 p8, .int .u8 p9, .int .u8 p10, .int .u8 p11]), (4, .int .i64 p12), (5, .int .i64 p13)]), []⟩
theorem e48_2 (C : CallT) (n0 : Int) (n1 : Int) (n2 : Int) (n3 : Int) (n4 : Int) (n5 : Int) (n6 : Int) (n7 : Int) (n8 : Int) (n9 : Int) (n10 : Int) (n11 : Int) (n12 : Int) (n13 : Int) : roundK GD LD C 48 none 2 (S48_2 n0 n1 n2 n3 n4 n5 n6 n7 n8 n9 n10 n11 n12 n13) =
 cond (decide (n13 < 6)) (
 cond (decide (0 ≤ n13)) (
 cond (decide (n13.toNat < 6)) (
 (nthI [n0, n1, n2, n3, n4, n5] (n13.toNat * 1)).bind fun x0 =>
 cond (decide (0 ≤ n13)) (
 cond (decide (n13.toNat < 6)) (
 (nthI [n6, n7, n8, n9, n10, n11] (n13.toNat * 1)).bind fun x1 =>
 cond (decide (x0 < x1)) (
 some (.ret, (S48_2 n0 n1 n2 n3 n4 n5 n6 n7 n8 n9 n10 n11 (-1) n13))) (
 cond (decide (0 ≤ n13)) (
 cond (decide (n13.toNat < 6)) (
 (nthI [n0, n1, n2, n3, n4, n5] (n13.toNat * 1)).bind fun x2 =>
 cond (decide (0 ≤ n13)) (
 cond (decide (n13.toNat < 6)) (
 (nthI [n6, n7, n8, n9, n10, n11] (n13.toNat * 1)).bind fun x3 =>
 cond (decide (x2 > x3)) (
 some (.ret, (S48_2 n0 n1 n2 n3 n4 n5 n6 n7 n8 n9 n10 n11 1 n13))) (
 some (.normal, (S48_2 n0 n1 n2 n3 n4 n5 n6 n7 n8 n9 n10 n11 n12 (IntKind.wrap .i64 (n13 + 1)))))) (
 none)) (
 none)) (
 none)) (
 none))) (
 none)) (
 none)) (
 none)) (
 none)) (
 some ((.exit 0), (S48_2 n0 n1 n2 n3 n4 n5 n6 n7 n8 n9 n10 n11 n12 n13))) := by kernel_rfl
theorem e48 (C : CallT) (n0 : Int) (n1 : Int) (n2 : Int) (n3 : Int) (n4 : Int) (n5 : Int) (n6 : Int) (n7 : Int) (n8 : Int) (n9 : Int) (n10 : Int) (n11 : Int) : run1 GD LD C (.func 48) [.agg [.int .u8 n0, .int .u8 n1, .int .u8 n2, .int .u8 n3, .int .u8 n4, .int .u8 n5], .agg [.int .u8 n6, .int .u8 n7, .int .u8 n8, .int .u8 n9, .int .u8 n10, .int .u8 n11]] [] =
 (C.w (roundK GD LD C 48 none 2) (S48_2 n0 n1 n2 n3 n4 n5 n6 n7 n8 n9 n10 n11 0 0)).bind fun x0 =>
 match x0.1 with
 | .normal =>
 none
 | .exit x2 =>
 cond (Nat.beq x2 0) (
 (asBox ((nth x0.2.t 2))).bind fun x3 =>
 (uncons x3).bind fun x4 =>
 (asInt .u8 (x4.1)).bind fun x5 =>
 (uncons x4.2).bind fun x6 =>
 (asInt .u8 (x6.1)).bind fun x7 =>
 (uncons x6.2).bind fun x8 =>
 (asInt .u8 (x8.1)).bind fun x9 =>
 (uncons x8.2).bind fun x10 =>
 (asInt .u8 (x10.1)).bind fun x11 =>
 (uncons x10.2).bind fun x12 =>
 (asInt .u8 (x12.1)).bind fun x13 =>
 (uncons x12.2).bind fun x14 =>
 (asInt .u8 (x14.1)).bind fun x15 =>
 (isNil x14.2).bind fun x16 =>
 (asBox ((nth x0.2.t 3))).bind fun x17 =>
 (uncons x17).bind fun x18 =>
 (asInt .u8 (x18.1)).bind fun x19 =>
 (uncons x18.2).bind fun x20 =>
 (asInt .u8 (x20.1)).bind fun x21 =>
 (uncons x20.2).bind fun x22 =>
 (asInt .u8 (x22.1)).bind fun x23 =>
 (uncons x22.2).bind fun x24 =>
 (asInt .u8 (x24.1)).bind fun x25 =>
 (uncons x24.2).bind fun x26 =>
 (asInt .u8 (x26.1)).bind fun x27 =>
 (uncons x26.2).bind fun x28 =>
 (asInt .u8 (x28.1)).bind fun x29 =>
 (isNil x28.2).bind fun x30 =>
 (asInt .i64 ((nth x0.2.t 4))).bind fun x31 =>
 (asInt .i64 ((nth x0.2.t 5))).bind fun x32 =>
 some (.int .i64 0, [])) (
 none)
 | .ret =>
 (asBox ((nth x0.2.t 2))).bind fun x33 =>
 (uncons x33).bind fun x34 =>
 (asInt .u8 (x34.1)).bind fun x35 =>
 (uncons x34.2).bind fun x36 =>
 (asInt .u8 (x36.1)).bind fun x37 =>
 (uncons x36.2).bind fun x38 =>
 (asInt .u8 (x38.1)).bind fun x39 =>
 (uncons x38.2).bind fun x40 =>
 (asInt .u8 (x40.1)).bind fun x41 =>
 (uncons x40.2).bind fun x42 =>
 (asInt .u8 (x42.1)).bind fun x43 =>
 (uncons x42.2).bind fun x44 =>
 (asInt .u8 (x44.1)).bind fun x45 =>
 (isNil x44.2).bind fun x46 =>
 (asBox ((nth x0.2.t 3))).bind fun x47 =>
 (uncons x47).bind fun x48 =>
 (asInt .u8 (x48.1)).bind fun x49 =>
 (uncons x48.2).bind fun x50 =>
 (asInt .u8 (x50.1)).bind fun x51 =>
 (uncons x50.2).bind fun x52 =>
 (asInt .u8 (x52.1)).bind fun x53 =>
 (uncons x52.2).bind fun x54 =>
 (asInt .u8 (x54.1)).bind fun x55 =>
 (uncons x54.2).bind fun x56 =>
 (asInt .u8 (x56.1)).bind fun x57 =>
 (uncons x56.2).bind fun x58 =>
 (asInt .u8 (x58.1)).bind fun x59 =>
 (isNil x58.2).bind fun x60 =>
 (asInt .i64 ((nth x0.2.t 4))).bind fun x61 =>
 (asInt .i64 ((nth x0.2.t 5))).bind fun x62 =>
 some (.int .i64 x61, []) := by kernel_rfl
def S53_2 (p0 : List (List V)) (p1 : Int) (p2 : Int) (p3 : Int) (p4 : Int) (p5 : Int) (p6 : Int) (p7 : Int) (p8 : Int) (p9 : List (List V)) : St := ⟨(sp 0 64 [(0, .slice .any p0), (3, .box [.int .i64 p1, .int .u8 p2, .int .u8 p3, .int .u8 p4, .int .u8 p5, .int .u8 p6, .int .u8 p7]), (5, .int .i64 p8)]), [.arr true 7 p9]⟩
theorem e53_2 (C : CallT) (r0 : List (List V)) (r1 : List (List V)) (n2 : Int) (n3 : Int) (n4 : Int) (n5 : Int) (n6 : Int) (n7 : Int) (n8 : Int) (n9 : Int) : roundK GD LD C 53 none 2 (S53_2 r1 n2 n3 n4 n5 n6 n7 n8 n9 r0) =
 cond (decide (n9 < ((r1.length : Nat) : Int))) (
 (getRow r1 n9 7).bind fun x0 =>
 (uncons x0).bind fun x1 =>
 (asInt .i64 (x1.1)).bind fun x2 =>
 (uncons x1.2).bind fun x3 =>
 (asInt .u8 (x3.1)).bind fun x4 =>
 (uncons x3.2).bind fun x5 =>
 (asInt .u8 (x5.1)).bind fun x6 =>
 (uncons x5.2).bind fun x7 =>
 (asInt .u8 (x7.1)).bind fun x8 =>
 (uncons x7.2).bind fun x9 =>
 (asInt .u8 (x9.1)).bind fun x10 =>
 (uncons x9.2).bind fun x11 =>
 (asInt .u8 (x11.1)).bind fun x12 =>
 (uncons x11.2).bind fun x13 =>
 (asInt .u8 (x13.1)).bind fun x14 =>
 (isNil x13.2).bind fun x15 =>
 (C.p (.func 48) [.agg [.int .u8 x4, .int .u8 x6, .int .u8 x8, .int .u8 x10, .int .u8 x12, .int .u8 x14], .agg [.int .u8 n3, .int .u8 n4, .int .u8 n5, .int .u8 n6, .int .u8 n7, .int .u8 n8]]).bind fun x16 =>
 (asInt .i64 (x16)).bind fun x17 =>
 cond (decide (x17 < 0)) (
 some (.normal, (S53_2 r1 n2 n3 n4 n5 n6 n7 n8 (IntKind.wrap .i64 (n9 + 1)) r0))) (
 some ((.exit 0), (S53_2 r1 n2 n3 n4 n5 n6 n7 n8 n9 r0)))) (
 some ((.exit 0), (S53_2 r1 n2 n3 n4 n5 n6 n7 n8 n9 r0))) := by kernel_rfl
theorem e53 (C : CallT) (r0 : List (List V)) (n1 : Int) (n2 : Int) (n3 : Int) (n4 : Int) (n5 : Int) (n6 : Int) (n7 : Int) : run1 GD LD C (.func 53) [.slice .any r0, .agg [.int .i64 n1, .int .u8 n2, .int .u8 n3, .int .u8 n4, .int .u8 n5, .int .u8 n6, .int .u8 n7]] [] =
 (C.w (roundK GD LD C 53 none 2) (S53_2 r0 n1 n2 n3 n4 n5 n6 n7 0 [])).bind fun x0 =>
 match x0.1 with
 | .normal =>
 none
 | .exit x2 =>
 cond (Nat.beq x2 0) (
 (asRows ((nth x0.2.t 0))).bind fun x3 =>
 (asBox ((nth x0.2.t 3))).bind fun x4 =>
 (uncons x4).bind fun x5 =>
 (asInt .i64 (x5.1)).bind fun x6 =>
 (uncons x5.2).bind fun x7 =>
 (asInt .u8 (x7.1)).bind fun x8 =>
 (uncons x7.2).bind fun x9 =>
 (asInt .u8 (x9.1)).bind fun x10 =>
 (uncons x9.2).bind fun x11 =>
 (asInt .u8 (x11.1)).bind fun x12 =>
 (uncons x11.2).bind fun x13 =>
 (asInt .u8 (x13.1)).bind fun x14 =>
 (uncons x13.2).bind fun x15 =>
 (asInt .u8 (x15.1)).bind fun x16 =>
 (uncons x15.2).bind fun x17 =>
 (asInt .u8 (x17.1)).bind fun x18 =>
 (isNil x17.2).bind fun x19 =>
 (asInt .i64 ((nth x0.2.t 5))).bind fun x20 =>
 (unconsO x0.2.h).bind fun x21 =>
 (asObArr true 7 x21.1).bind fun x22 =>
 cond (decide (0 ≤ x20)) (
 cond (decide (x20.toNat ≤ x3.length)) (
 cond (headIs 7 ((x3.take x20.toNat).drop 0)) (
 cond (decide ((((x3.take x20.toNat).drop 0).length * 16) ≤ room)) (
 cond (decide (x20 < ((x3.length : Nat) : Int))) (
 (getRow x3 x20 7).bind fun x24 =>
 (uncons x24).bind fun x25 =>
 (asInt .i64 (x25.1)).bind fun x26 =>
 (uncons x25.2).bind fun x27 =>
 (asInt .u8 (x27.1)).bind fun x28 =>
 (uncons x27.2).bind fun x29 =>
 (asInt .u8 (x29.1)).bind fun x30 =>
 (uncons x29.2).bind fun x31 =>
 (asInt .u8 (x31.1)).bind fun x32 =>
 (uncons x31.2).bind fun x33 =>
 (asInt .u8 (x33.1)).bind fun x34 =>
 (uncons x33.2).bind fun x35 =>
 (asInt .u8 (x35.1)).bind fun x36 =>
 (uncons x35.2).bind fun x37 =>
 (asInt .u8 (x37.1)).bind fun x38 =>
 (isNil x37.2).bind fun x39 =>
 (C.p (.func 48) [.agg [.int .u8 x28, .int .u8 x30, .int .u8 x32, .int .u8 x34, .int .u8 x36, .int .u8 x38], .agg [.int .u8 x8, .int .u8 x10, .int .u8 x12, .int .u8 x14, .int .u8 x16, .int .u8 x18]]).bind fun x40 =>
 (asInt .i64 (x40)).bind fun x41 =>
 cond (x41 == 0) (
 (getRow x3 x20 7).bind fun x43 =>
 (uncons x43).bind fun x44 =>
 (asInt .i64 (x44.1)).bind fun x45 =>
 (uncons x44.2).bind fun x46 =>
 (asInt .u8 (x46.1)).bind fun x47 =>
 (uncons x46.2).bind fun x48 =>
 (asInt .u8 (x48.1)).bind fun x49 =>
 (uncons x48.2).bind fun x50 =>
 (asInt .u8 (x50.1)).bind fun x51 =>
 (uncons x50.2).bind fun x52 =>
 (asInt .u8 (x52.1)).bind fun x53 =>
 (uncons x52.2).bind fun x54 =>
 (asInt .u8 (x54.1)).bind fun x55 =>
 (uncons x54.2).bind fun x56 =>
 (asInt .u8 (x56.1)).bind fun x57 =>
 (isNil x56.2).bind fun x58 =>
 cond (decide (((x3.take x20.toNat).drop 0).length = ((x3.take x20.toNat).drop 0).length)) (
 cond (decide (((((x3.take x20.toNat).drop 0).length + 1) * 16) ≤ room)) (
 cond (decide (0 ≤ (IntKind.wrap .i64 (x20 + 1)))) (
 cond (decide ((IntKind.wrap .i64 (x20 + 1)).toNat ≤ x3.length)) (
 cond (headIs 7 x3) (
 cond (headIs 7 ((x3.take x3.length).drop (IntKind.wrap .i64 (x20 + 1)).toNat)) (
 cond (decide ((((x3.take x20.toNat).drop 0).length + 1) = (List.append ((x3.take x20.toNat).drop 0) [[.int .i64 (IntKind.wrap .i64 (x6 + x45)), .int .u8 x8, .int .u8 x10, .int .u8 x12, .int .u8 x14, .int .u8 x16, .int .u8 x18]]).length)) (
 cond (decide ((((List.append ((x3.take x20.toNat).drop 0) [[.int .i64 (IntKind.wrap .i64 (x6 + x45)), .int .u8 x8, .int .u8 x10, .int .u8 x12, .int .u8 x14, .int .u8 x16, .int .u8 x18]]).length + ((x3.take x3.length).drop (IntKind.wrap .i64 (x20 + 1)).toNat).length) * 16) ≤ room)) (
 (arrRows [.arr true 7 x22, .arr true 7 (List.append (List.append ((x3.take x20.toNat).drop 0) [[.int .i64 (IntKind.wrap .i64 (x6 + x45)), .int .u8 x8, .int .u8 x10, .int .u8 x12, .int .u8 x14, .int .u8 x16, .int .u8 x18]]) ((x3.take x3.length).drop (IntKind.wrap .i64 (x20 + 1)).toNat))] 1 ((((x3.take x20.toNat).drop 0).length + 1) + ((x3.take x3.length).drop (IntKind.wrap .i64 (x20 + 1)).toNat).length)).bind fun x59 =>
 some (.slice .any x59, [.arr true 7 x22, .arr false 7 (List.append (List.append ((x3.take x20.toNat).drop 0) [[.int .i64 (IntKind.wrap .i64 (x6 + x45)), .int .u8 x8, .int .u8 x10, .int .u8 x12, .int .u8 x14, .int .u8 x16, .int .u8 x18]]) ((x3.take x3.length).drop (IntKind.wrap .i64 (x20 + 1)).toNat))])) (
 none)) (
 none)) (
 none)) (
 none)) (
 none)) (
 none)) (
 none)) (
 none)) (
 cond (decide (((x3.take x20.toNat).drop 0).length = ((x3.take x20.toNat).drop 0).length)) (
 cond (decide (((((x3.take x20.toNat).drop 0).length + 1) * 16) ≤ room)) (
 cond (decide (0 ≤ x20)) (
 cond (decide (x20.toNat ≤ x3.length)) (
 cond (headIs 7 x3) (
 cond (headIs 7 ((x3.take x3.length).drop x20.toNat)) (
 cond (decide ((((x3.take x20.toNat).drop 0).length + 1) = (List.append ((x3.take x20.toNat).drop 0) [[.int .i64 x6, .int .u8 x8, .int .u8 x10, .int .u8 x12, .int .u8 x14, .int .u8 x16, .int .u8 x18]]).length)) (
 cond (decide ((((List.append ((x3.take x20.toNat).drop 0) [[.int .i64 x6, .int .u8 x8, .int .u8 x10, .int .u8 x12, .int .u8 x14, .int .u8 x16, .int .u8 x18]]).length + ((x3.take x3.length).drop x20.toNat).length) * 16) ≤ room)) (
 (arrRows [.arr true 7 x22, .arr true 7 (List.append (List.append ((x3.take x20.toNat).drop 0) [[.int .i64 x6, .int .u8 x8, .int .u8 x10, .int .u8 x12, .int .u8 x14, .int .u8 x16, .int .u8 x18]]) ((x3.take x3.length).drop x20.toNat))] 1 ((((x3.take x20.toNat).drop 0).length + 1) + ((x3.take x3.length).drop x20.toNat).length)).bind fun x42 =>
 some (.slice .any x42, [.arr true 7 x22, .arr false 7 (List.append (List.append ((x3.take x20.toNat).drop 0) [[.int .i64 x6, .int .u8 x8, .int .u8 x10, .int .u8 x12, .int .u8 x14, .int .u8 x16, .int .u8 x18]]) ((x3.take x3.length).drop x20.toNat))])) (
 none)) (
 none)) (
 none)) (
 none)) (
 none)) (
 none)) (
 none)) (
 none))) (
 cond (decide (((x3.take x20.toNat).drop 0).length = ((x3.take x20.toNat).drop 0).length)) (
 cond (decide (((((x3.take x20.toNat).drop 0).length + 1) * 16) ≤ room)) (
 cond (decide (0 ≤ x20)) (
 cond (decide (x20.toNat ≤ x3.length)) (
 cond (headIs 7 x3) (
 cond (headIs 7 ((x3.take x3.length).drop x20.toNat)) (
 cond (decide ((((x3.take x20.toNat).drop 0).length + 1) = (List.append ((x3.take x20.toNat).drop 0) [[.int .i64 x6, .int .u8 x8, .int .u8 x10, .int .u8 x12, .int .u8 x14, .int .u8 x16, .int .u8 x18]]).length)) (
 cond (decide ((((List.append ((x3.take x20.toNat).drop 0) [[.int .i64 x6, .int .u8 x8, .int .u8 x10, .int .u8 x12, .int .u8 x14, .int .u8 x16, .int .u8 x18]]).length + ((x3.take x3.length).drop x20.toNat).length) * 16) ≤ room)) (
 (arrRows [.arr true 7 x22, .arr true 7 (List.append (List.append ((x3.take x20.toNat).drop 0) [[.int .i64 x6, .int .u8 x8, .int .u8 x10, .int .u8 x12, .int .u8 x14, .int .u8 x16, .int .u8 x18]]) ((x3.take x3.length).drop x20.toNat))] 1 ((((x3.take x20.toNat).drop 0).length + 1) + ((x3.take x3.length).drop x20.toNat).length)).bind fun x23 =>
 some (.slice .any x23, [.arr true 7 x22, .arr false 7 (List.append (List.append ((x3.take x20.toNat).drop 0) [[.int .i64 x6, .int .u8 x8, .int .u8 x10, .int .u8 x12, .int .u8 x14, .int .u8 x16, .int .u8 x18]]) ((x3.take x3.length).drop x20.toNat))])) (
 none)) (
 none)) (
 none)) (
 none)) (
 none)) (
 none)) (
 none)) (
 none))) (
 none)) (
 none)) (
 none)) (
 none)) (
 none)
 | .ret =>
 none := by kernel_rfl
def S54_3 (p0 : List (List V)) (p1 : Int) (p2 : Int) (p3 : Int) (p4 : List (List V)) (p5 : Int) (p6 : Int) (p7 : Nat) (p8 : Int) (p9 : List (List V)) : St := ⟨(sp 0 93 [(0, .slice .any p0), (1, .int .i64 p1), (2, .int .i64 p2), (3, .int .i64 p3), (8, .slice .any p4), (9, .box [.int .i64 p5, .int .i64 p6]), (10, .arr 0 p7 7), (11, .int .i64 p8)]), [.arr true 7 p9]⟩
def S54_3_v1 (p0 : List (List V)) (p1 : Int) (p2 : Int) (p3 : Int) (p4 : Int) (p5 : Int) (p6 : Nat) (p7 : Int) (p8 : List (List V)) : St := ⟨(sp 0 93 [(0, .slice .any p0), (1, .int .i64 p1), (2, .int .i64 p2), (3, .int .i64 p3), (8, .slice .nil []), (9, .box [.int .i64 p4, .int .i64 p5]), (10, .arr 0 p6 7), (11, .int .i64 p7)]), [.arr true 7 p8]⟩
theorem e54_3 (C : CallT) (r0 : List (List V)) (r1 : List (List V)) (n2 : Int) (n3 : Int) (n4 : Int) (r5 : List (List V)) (n6 : Int) (n7 : Int) (n8 : Int) : roundK GD LD C 54 none 3 (S54_3 r1 n2 n3 n4 r5 n6 n7 r0.length n8 r0) =
 cond (decide (n8 < ((r1.length : Nat) : Int))) (
 (getRow r1 n8 7).bind fun x0 =>
 (uncons x0).bind fun x1 =>
 (asInt .i64 (x1.1)).bind fun x2 =>
 (uncons x1.2).bind fun x3 =>
 (asInt .u8 (x3.1)).bind fun x4 =>
 (uncons x3.2).bind fun x5 =>
 (asInt .u8 (x5.1)).bind fun x6 =>
 (uncons x5.2).bind fun x7 =>
 (asInt .u8 (x7.1)).bind fun x8 =>
 (uncons x7.2).bind fun x9 =>
 (asInt .u8 (x9.1)).bind fun x10 =>
 (uncons x9.2).bind fun x11 =>
 (asInt .u8 (x11.1)).bind fun x12 =>
 (uncons x11.2).bind fun x13 =>
 (asInt .u8 (x13.1)).bind fun x14 =>
 (isNil x13.2).bind fun x15 =>
 (C.p (.func 46) [.int .i64 x2]).bind fun x16 =>
 (asBool (x16)).bind fun x17 =>
 cond (!x17) (
 (C.p (.func 51) []).bind fun x164 =>
 (asCells (x164)).bind fun x165 =>
 (uncons x165).bind fun x166 =>
 (asInt .i64 (x166.1)).bind fun x167 =>
 (uncons x166.2).bind fun x168 =>
 (asInt .i64 (x168.1)).bind fun x169 =>
 (isNil x168.2).bind fun x170 =>
 some (.ret, (S54_3_v1 r1 n2 n3 n4 x167 x169 r0.length n8 r0))) (
 (getRow r1 n8 7).bind fun x18 =>
 (uncons x18).bind fun x19 =>
 (asInt .i64 (x19.1)).bind fun x20 =>
 (uncons x19.2).bind fun x21 =>
 (asInt .u8 (x21.1)).bind fun x22 =>
 (uncons x21.2).bind fun x23 =>
 (asInt .u8 (x23.1)).bind fun x24 =>
 (uncons x23.2).bind fun x25 =>
 (asInt .u8 (x25.1)).bind fun x26 =>
 (uncons x25.2).bind fun x27 =>
 (asInt .u8 (x27.1)).bind fun x28 =>
 (uncons x27.2).bind fun x29 =>
 (asInt .u8 (x29.1)).bind fun x30 =>
 (uncons x29.2).bind fun x31 =>
 (asInt .u8 (x31.1)).bind fun x32 =>
 (isNil x31.2).bind fun x33 =>
 cond (x20 == 0) (
 some (.normal, (S54_3 r1 n2 n3 n4 r5 n6 n7 r0.length (IntKind.wrap .i64 (n8 + 1)) r0))) (
 (getRow r1 n8 7).bind fun x34 =>
 (uncons x34).bind fun x35 =>
 (asInt .i64 (x35.1)).bind fun x36 =>
 (uncons x35.2).bind fun x37 =>
 (asInt .u8 (x37.1)).bind fun x38 =>
 (uncons x37.2).bind fun x39 =>
 (asInt .u8 (x39.1)).bind fun x40 =>
 (uncons x39.2).bind fun x41 =>
 (asInt .u8 (x41.1)).bind fun x42 =>
 (uncons x41.2).bind fun x43 =>
 (asInt .u8 (x43.1)).bind fun x44 =>
 (uncons x43.2).bind fun x45 =>
 (asInt .u8 (x45.1)).bind fun x46 =>
 (uncons x45.2).bind fun x47 =>
 (asInt .u8 (x47.1)).bind fun x48 =>
 (isNil x47.2).bind fun x49 =>
 (C.p (.func 47) [.agg [.int .u8 x38, .int .u8 x40, .int .u8 x42, .int .u8 x44, .int .u8 x46, .int .u8 x48]]).bind fun x50 =>
 (asInt .i64 (x50)).bind fun x51 =>
 cond (decide (x51 ≤ n2)) (
 (getRow r1 n8 7).bind fun x91 =>
 (uncons x91).bind fun x92 =>
 (asInt .i64 (x92.1)).bind fun x93 =>
 (uncons x92.2).bind fun x94 =>
 (asInt .u8 (x94.1)).bind fun x95 =>
 (uncons x94.2).bind fun x96 =>
 (asInt .u8 (x96.1)).bind fun x97 =>
 (uncons x96.2).bind fun x98 =>
 (asInt .u8 (x98.1)).bind fun x99 =>
 (uncons x98.2).bind fun x100 =>
 (asInt .u8 (x100.1)).bind fun x101 =>
 (uncons x100.2).bind fun x102 =>
 (asInt .u8 (x102.1)).bind fun x103 =>
 (uncons x102.2).bind fun x104 =>
 (asInt .u8 (x104.1)).bind fun x105 =>
 (isNil x104.2).bind fun x106 =>
 (C.p (.func 47) [.agg [.int .u8 x95, .int .u8 x97, .int .u8 x99, .int .u8 x101, .int .u8 x103, .int .u8 x105]]).bind fun x107 =>
 (asInt .i64 (x107)).bind fun x108 =>
 cond (decide (x108 ≤ 6)) (
 (getRow r1 n8 7).bind fun x148 =>
 (uncons x148).bind fun x149 =>
 (asInt .i64 (x149.1)).bind fun x150 =>
 (uncons x149.2).bind fun x151 =>
 (asInt .u8 (x151.1)).bind fun x152 =>
 (uncons x151.2).bind fun x153 =>
 (asInt .u8 (x153.1)).bind fun x154 =>
 (uncons x153.2).bind fun x155 =>
 (asInt .u8 (x155.1)).bind fun x156 =>
 (uncons x155.2).bind fun x157 =>
 (asInt .u8 (x157.1)).bind fun x158 =>
 (uncons x157.2).bind fun x159 =>
 (asInt .u8 (x159.1)).bind fun x160 =>
 (uncons x159.2).bind fun x161 =>
 (asInt .u8 (x161.1)).bind fun x162 =>
 (isNil x161.2).bind fun x163 =>
 cond (decide (r0.length = r0.length)) (
 cond (decide (((r0.length + 1) * 16) ≤ room)) (
 some (.normal, (S54_3 r1 n2 n3 n4 r5 n6 n7 (r0.length + 1) (IntKind.wrap .i64 (n8 + 1)) (List.append r0 [[.int .i64 x150, .int .u8 x152, .int .u8 x154, .int .u8 x156, .int .u8 x158, .int .u8 x160, .int .u8 x162]])))) (
 none)) (
 none)) (
 (getRow r1 n8 7).bind fun x109 =>
 (uncons x109).bind fun x110 =>
 (asInt .i64 (x110.1)).bind fun x111 =>
 (uncons x110.2).bind fun x112 =>
 (asInt .u8 (x112.1)).bind fun x113 =>
 (uncons x112.2).bind fun x114 =>
 (asInt .u8 (x114.1)).bind fun x115 =>
 (uncons x114.2).bind fun x116 =>
 (asInt .u8 (x116.1)).bind fun x117 =>
 (uncons x116.2).bind fun x118 =>
 (asInt .u8 (x118.1)).bind fun x119 =>
 (uncons x118.2).bind fun x120 =>
 (asInt .u8 (x120.1)).bind fun x121 =>
 (uncons x120.2).bind fun x122 =>
 (asInt .u8 (x122.1)).bind fun x123 =>
 (isNil x122.2).bind fun x124 =>
 (getRow r1 n8 7).bind fun x125 =>
 (uncons x125).bind fun x126 =>
 (asInt .i64 (x126.1)).bind fun x127 =>
 (uncons x126.2).bind fun x128 =>
 (asInt .u8 (x128.1)).bind fun x129 =>
 (uncons x128.2).bind fun x130 =>
 (asInt .u8 (x130.1)).bind fun x131 =>
 (uncons x130.2).bind fun x132 =>
 (asInt .u8 (x132.1)).bind fun x133 =>
 (uncons x132.2).bind fun x134 =>
 (asInt .u8 (x134.1)).bind fun x135 =>
 (uncons x134.2).bind fun x136 =>
 (asInt .u8 (x136.1)).bind fun x137 =>
 (uncons x136.2).bind fun x138 =>
 (asInt .u8 (x138.1)).bind fun x139 =>
 (isNil x138.2).bind fun x140 =>
 (C.p (.func 60) [.int .i64 x111, .agg [.int .u8 x129, .int .u8 x131, .int .u8 x133, .int .u8 x135, .int .u8 x137, .int .u8 x139]]).bind fun x141 =>
 (asTuple (x141)).bind fun x142 =>
 (uncons x142).bind fun x143 =>
 (asInt .i64 (x143.1)).bind fun x144 =>
 (uncons x143.2).bind fun x145 =>
 (asInt .i64 (x145.1)).bind fun x146 =>
 (isNil x145.2).bind fun x147 =>
 some (.normal, (S54_3 r1 n2 (IntKind.wrap .i64 (n3 + x144)) (IntKind.wrap .i64 (n4 + x146)) r5 n6 n7 r0.length (IntKind.wrap .i64 (n8 + 1)) r0)))) (
 (getRow r1 n8 7).bind fun x52 =>
 (uncons x52).bind fun x53 =>
 (asInt .i64 (x53.1)).bind fun x54 =>
 (uncons x53.2).bind fun x55 =>
 (asInt .u8 (x55.1)).bind fun x56 =>
 (uncons x55.2).bind fun x57 =>
 (asInt .u8 (x57.1)).bind fun x58 =>
 (uncons x57.2).bind fun x59 =>
 (asInt .u8 (x59.1)).bind fun x60 =>
 (uncons x59.2).bind fun x61 =>
 (asInt .u8 (x61.1)).bind fun x62 =>
 (uncons x61.2).bind fun x63 =>
 (asInt .u8 (x63.1)).bind fun x64 =>
 (uncons x63.2).bind fun x65 =>
 (asInt .u8 (x65.1)).bind fun x66 =>
 (isNil x65.2).bind fun x67 =>
 (getRow r1 n8 7).bind fun x68 =>
 (uncons x68).bind fun x69 =>
 (asInt .i64 (x69.1)).bind fun x70 =>
 (uncons x69.2).bind fun x71 =>
 (asInt .u8 (x71.1)).bind fun x72 =>
 (uncons x71.2).bind fun x73 =>
 (asInt .u8 (x73.1)).bind fun x74 =>
 (uncons x73.2).bind fun x75 =>
 (asInt .u8 (x75.1)).bind fun x76 =>
 (uncons x75.2).bind fun x77 =>
 (asInt .u8 (x77.1)).bind fun x78 =>
 (uncons x77.2).bind fun x79 =>
 (asInt .u8 (x79.1)).bind fun x80 =>
 (uncons x79.2).bind fun x81 =>
 (asInt .u8 (x81.1)).bind fun x82 =>
 (isNil x81.2).bind fun x83 =>
 (C.p (.func 60) [.int .i64 x54, .agg [.int .u8 x72, .int .u8 x74, .int .u8 x76, .int .u8 x78, .int .u8 x80, .int .u8 x82]]).bind fun x84 =>
 (asTuple (x84)).bind fun x85 =>
 (uncons x85).bind fun x86 =>
 (asInt .i64 (x86.1)).bind fun x87 =>
 (uncons x86.2).bind fun x88 =>
 (asInt .i64 (x88.1)).bind fun x89 =>
 (isNil x88.2).bind fun x90 =>
 some (.normal, (S54_3 r1 n2 (IntKind.wrap .i64 (n3 + x87)) (IntKind.wrap .i64 (n4 + x89)) r5 n6 n7 r0.length (IntKind.wrap .i64 (n8 + 1)) r0)))))) (
 some ((.exit 0), (S54_3 r1 n2 n3 n4 r5 n6 n7 r0.length n8 r0))) := by kernel_rfl
theorem e54 (C : CallT) (r0 : List (List V)) (n1 : Int) (n2 : Int) (n3 : Int) : run1 GD LD C (.func 54) [.slice .any r0, .int .i64 n1, .int .i64 n2, .int .i64 n3] [] =
 (C.w (roundK GD LD C 54 none 3) (S54_3 r0 n1 n2 n3 [] 0 0 0 0 [])).bind fun x0 =>
 match x0.1 with
 | .normal =>
 none
 | .exit x2 =>
 cond (Nat.beq x2 0) (
 (asRows ((nth x0.2.t 0))).bind fun x3 =>
 (asInt .i64 ((nth x0.2.t 1))).bind fun x4 =>
 (asInt .i64 ((nth x0.2.t 2))).bind fun x5 =>
 (asInt .i64 ((nth x0.2.t 3))).bind fun x6 =>
 (asRows ((nth x0.2.t 8))).bind fun x7 =>
 (asBox ((nth x0.2.t 9))).bind fun x8 =>
 (uncons x8).bind fun x9 =>
 (asInt .i64 (x9.1)).bind fun x10 =>
 (uncons x9.2).bind fun x11 =>
 (asInt .i64 (x11.1)).bind fun x12 =>
 (isNil x11.2).bind fun x13 =>
 (asArr 0 7 ((nth x0.2.t 10))).bind fun x14 =>
 (asInt .i64 ((nth x0.2.t 11))).bind fun x15 =>
 (unconsO x0.2.h).bind fun x16 =>
 (asObArr true 7 x16.1).bind fun x17 =>
 (C.p (.func 39) [.int .i64 x5, .int .i64 x6]).bind fun x18 =>
 (asCells (x18)).bind fun x19 =>
 (uncons x19).bind fun x20 =>
 (asInt .i64 (x20.1)).bind fun x21 =>
 (uncons x20.2).bind fun x22 =>
 (asInt .i64 (x22.1)).bind fun x23 =>
 (isNil x22.2).bind fun x24 =>
 cond (decide (((x14 : Nat) : Int) > 100)) (
 (C.p (.func 51) []).bind fun x34 =>
 (asCells (x34)).bind fun x35 =>
 (uncons x35).bind fun x36 =>
 (asInt .i64 (x36.1)).bind fun x37 =>
 (uncons x36.2).bind fun x38 =>
 (asInt .i64 (x38.1)).bind fun x39 =>
 (isNil x38.2).bind fun x40 =>
 some (.tuple [.slice .nil [], .agg [.int .i64 x37, .int .i64 x39]], [.arr true 7 x17])) (
 (C.p (.func 34) [.agg [.int .i64 x21, .int .i64 x23]]).bind fun x25 =>
 (asBool (x25)).bind fun x26 =>
 cond x26 (
 (C.p (.func 51) []).bind fun x27 =>
 (asCells (x27)).bind fun x28 =>
 (uncons x28).bind fun x29 =>
 (asInt .i64 (x29.1)).bind fun x30 =>
 (uncons x29.2).bind fun x31 =>
 (asInt .i64 (x31.1)).bind fun x32 =>
 (isNil x31.2).bind fun x33 =>
 some (.tuple [.slice .nil [], .agg [.int .i64 x30, .int .i64 x32]], [.arr true 7 x17])) (
 some (.tuple [.arr 0 x14 7, .agg [.int .i64 x21, .int .i64 x23]], [.arr true 7 x17])))) (
 none)
 | .ret =>
 (asRows ((nth x0.2.t 0))).bind fun x41 =>
 (asInt .i64 ((nth x0.2.t 1))).bind fun x42 =>
 (asInt .i64 ((nth x0.2.t 2))).bind fun x43 =>
 (asInt .i64 ((nth x0.2.t 3))).bind fun x44 =>
 (asRows ((nth x0.2.t 8))).bind fun x45 =>
 (asBox ((nth x0.2.t 9))).bind fun x46 =>
 (uncons x46).bind fun x47 =>
 (asInt .i64 (x47.1)).bind fun x48 =>
 (uncons x47.2).bind fun x49 =>
 (asInt .i64 (x49.1)).bind fun x50 =>
 (isNil x49.2).bind fun x51 =>
 (asArr 0 7 ((nth x0.2.t 10))).bind fun x52 =>
 (asInt .i64 ((nth x0.2.t 11))).bind fun x53 =>
 (unconsO x0.2.h).bind fun x54 =>
 (asObArr true 7 x54.1).bind fun x55 =>
 some (.tuple [.slice .any x45, .agg [.int .i64 x48, .int .i64 x50]], [.arr true 7 x55]) := by kernel_rfl
def S60_4 (p0 : Int) (p1 : Int) (p2 : Int) (p3 : Int) (p4 : Int) (p5 : Int) (p6 : Int) (p7 : Int) (p8 : Int) (p9 : Int) : St := ⟨(sp 0 33 [(0, .int .i64 p0), (3, .box [.int .u8 p1, .int .u8 p2, .int .u8 p3, .int .u8 p4, .int .u8 p5, .int .u8 p6]), (4, .int .i64 p7), (5, .int .i64 p8), (6, .int .i64 p9)]), []⟩
theorem e60_4 (C : CallT) (n0 : Int) (n1 : Int) (n2 : Int) (n3 : Int) (n4 : Int) (n5 : Int) (n6 : Int) (n7 : Int) (n8 : Int) (n9 : Int) : roundK GD LD C 60 none 4 (S60_4 n0 n1 n2 n3 n4 n5 n6 n7 n8 n9) =
 cond (decide (n9 < 6)) (
 cond (decide (0 ≤ n9)) (
 cond (decide (n9.toNat < 6)) (
 (nthI [n1, n2, n3, n4, n5, n6] (n9.toNat * 1)).bind fun x0 =>
 cond ((Int.tmod x0 2) == 1) (
 some (.ret, (S60_4 n0 n1 n2 n3 n4 n5 n6 (if (IntKind.wrap .i64 (0 - n0)) < n0 then (IntKind.wrap .i64 (0 - n0)) else n0) (if (IntKind.wrap .i64 (0 - n0)) > n0 then (IntKind.wrap .i64 (0 - n0)) else n0) n9))) (
 some (.normal, (S60_4 n0 n1 n2 n3 n4 n5 n6 n7 n8 (IntKind.wrap .i64 (n9 + 1)))))) (
 none)) (
 none)) (
 some ((.exit 0), (S60_4 n0 n1 n2 n3 n4 n5 n6 n7 n8 n9))) := by kernel_rfl
theorem e60 (C : CallT) (n0 : Int) (n1 : Int) (n2 : Int) (n3 : Int) (n4 : Int) (n5 : Int) (n6 : Int) : run1 GD LD C (.func 60) [.int .i64 n0, .agg [.int .u8 n1, .int .u8 n2, .int .u8 n3, .int .u8 n4, .int .u8 n5, .int .u8 n6]] [] =
 (C.p (.func 47) [.agg [.int .u8 n1, .int .u8 n2, .int .u8 n3, .int .u8 n4, .int .u8 n5, .int .u8 n6]]).bind fun x0 =>
 (asInt .i64 (x0)).bind fun x1 =>
 cond (x1 == 0) (
 some (.tuple [.int .i64 n0, .int .i64 n0], [])) (
 (C.w (roundK GD LD C 60 none 4) (S60_4 n0 n1 n2 n3 n4 n5 n6 0 0 0)).bind fun x2 =>
 match x2.1 with
 | .normal =>
 none
 | .exit x4 =>
 cond (Nat.beq x4 0) (
 (asInt .i64 ((nth x2.2.t 0))).bind fun x5 =>
 (asBox ((nth x2.2.t 3))).bind fun x6 =>
 (uncons x6).bind fun x7 =>
 (asInt .u8 (x7.1)).bind fun x8 =>
 (uncons x7.2).bind fun x9 =>
 (asInt .u8 (x9.1)).bind fun x10 =>
 (uncons x9.2).bind fun x11 =>
 (asInt .u8 (x11.1)).bind fun x12 =>
 (uncons x11.2).bind fun x13 =>
 (asInt .u8 (x13.1)).bind fun x14 =>
 (uncons x13.2).bind fun x15 =>
 (asInt .u8 (x15.1)).bind fun x16 =>
 (uncons x15.2).bind fun x17 =>
 (asInt .u8 (x17.1)).bind fun x18 =>
 (isNil x17.2).bind fun x19 =>
 (asInt .i64 ((nth x2.2.t 4))).bind fun x20 =>
 (asInt .i64 ((nth x2.2.t 5))).bind fun x21 =>
 (asInt .i64 ((nth x2.2.t 6))).bind fun x22 =>
 some (.tuple [.int .i64 (if 0 < x5 then 0 else x5), .int .i64 (if 0 > x5 then 0 else x5)], [])) (
 none)
 | .ret =>
 (asInt .i64 ((nth x2.2.t 0))).bind fun x23 =>
 (asBox ((nth x2.2.t 3))).bind fun x24 =>
 (uncons x24).bind fun x25 =>
 (asInt .u8 (x25.1)).bind fun x26 =>
 (uncons x25.2).bind fun x27 =>
 (asInt .u8 (x27.1)).bind fun x28 =>
 (uncons x27.2).bind fun x29 =>
 (asInt .u8 (x29.1)).bind fun x30 =>
 (uncons x29.2).bind fun x31 =>
 (asInt .u8 (x31.1)).bind fun x32 =>
 (uncons x31.2).bind fun x33 =>
 (asInt .u8 (x33.1)).bind fun x34 =>
 (uncons x33.2).bind fun x35 =>
 (asInt .u8 (x35.1)).bind fun x36 =>
 (isNil x35.2).bind fun x37 =>
 (asInt .i64 ((nth x2.2.t 4))).bind fun x38 =>
 (asInt .i64 ((nth x2.2.t 5))).bind fun x39 =>
 (asInt .i64 ((nth x2.2.t 6))).bind fun x40 =>
 some (.tuple [.int .i64 x38, .int .i64 x39], [])) := by kernel_rfl
theorem e69 (C : CallT) (n0 : Int) (n1 : Int) (n2 : Int) : run1 GD LD C (.func 69) [.agg [.int .i64 n0, .int .i64 n1], .int .i64 n2] [] =
 cond (decide (n2 ≤ 1)) (
 some (.agg [.int .i64 n0, .int .i64 n1], [])) (
 cond ((Int.tmod n2 2) == 0) (
 (C.p (.func 69) [.agg [.int .i64 n0, .int .i64 n1], .int .i64 (IntKind.wrap .i64 (Int.tdiv n2 2))]).bind fun x14 =>
 (asCells (x14)).bind fun x15 =>
 (uncons x15).bind fun x16 =>
 (asInt .i64 (x16.1)).bind fun x17 =>
 (uncons x16.2).bind fun x18 =>
 (asInt .i64 (x18.1)).bind fun x19 =>
 (isNil x18.2).bind fun x20 =>
 (C.p (.func 82) [.agg [.int .i64 x17, .int .i64 x19]]).bind fun x21 =>
 (asCells (x21)).bind fun x22 =>
 (uncons x22).bind fun x23 =>
 (asInt .i64 (x23.1)).bind fun x24 =>
 (uncons x23.2).bind fun x25 =>
 (asInt .i64 (x25.1)).bind fun x26 =>
 (isNil x25.2).bind fun x27 =>
 some (.agg [.int .i64 x24, .int .i64 x26], [])) (
 (C.p (.func 69) [.agg [.int .i64 n0, .int .i64 n1], .int .i64 (IntKind.wrap .i64 (n2 - 1))]).bind fun x0 =>
 (asCells (x0)).bind fun x1 =>
 (uncons x1).bind fun x2 =>
 (asInt .i64 (x2.1)).bind fun x3 =>
 (uncons x2.2).bind fun x4 =>
 (asInt .i64 (x4.1)).bind fun x5 =>
 (isNil x4.2).bind fun x6 =>
 (C.p (.func 68) [.agg [.int .i64 x3, .int .i64 x5], .agg [.int .i64 n0, .int .i64 n1]]).bind fun x7 =>
 (asCells (x7)).bind fun x8 =>
 (uncons x8).bind fun x9 =>
 (asInt .i64 (x9.1)).bind fun x10 =>
 (uncons x9.2).bind fun x11 =>
 (asInt .i64 (x11.1)).bind fun x12 =>
 (isNil x11.2).bind fun x13 =>
 some (.agg [.int .i64 x10, .int .i64 x12], []))) := by kernel_rfl
theorem e11 (C : CallT) (r0 : List (List V)) (r1 : List (List V)) (n2 : Int) (n3 : Int) : run1 GD LD C (.func 11) [.agg [.slice .any r0, .slice .any r1, .int .i64 n2, .int .i8 n3]] [] =
 (C.p (.func 49) [.slice .any r0, .int .i64 9, .int .i64 2147483648]).bind fun x0 =>
 (asRows (x0)).bind fun x1 =>
 (C.p (.func 49) [.slice .any r1, .int .i64 9, .int .i64 2147483648]).bind fun x2 =>
 (asRows (x2)).bind fun x3 =>
 some (.tuple [.slice .any x1, .slice .any x3], []) := by kernel_rfl
theorem e35 (C : CallT) (n0 : Int) (n1 : Int) (n2 : Int) (n3 : Int) : run1 GD LD C (.func 35) [.agg [.int .i64 n0, .int .i64 n1], .int .i64 n2, .int .i64 n3] [] =
 cond (n0 == n2) (
 some (.bool (n1 == n3), [])) (
 some (.bool false, [])) := by kernel_rfl
theorem e37 (C : CallT) (r0 : List (List V)) (r1 : List (List V)) (n2 : Int) (n3 : Int) : run1 GD LD C (.func 37) [.agg [.slice .any r0, .slice .any r1, .int .i64 n2, .int .i8 n3]] [] =
 (C.p (.func 49) [.slice .any r0, .int .i64 6, .int .i64 1048576]).bind fun x0 =>
 (asRows (x0)).bind fun x1 =>
 (C.p (.func 49) [.slice .any r1, .int .i64 6, .int .i64 1048576]).bind fun x2 =>
 (asRows (x2)).bind fun x3 =>
 some (.tuple [.slice .any x1, .slice .any x3], []) := by kernel_rfl
theorem e42 (C : CallT) (n0 : Int) (n1 : Int) (n2 : Int) : run1 GD LD C (.func 42) [.int .i64 n0, .int .u8 n1, .int .u8 n2] [] =
 some (.agg [.int .i64 n0, .int .u8 n1, .int .u8 n2, .int .u8 0, .int .u8 0, .int .u8 0, .int .u8 0], []) := by kernel_rfl
end Go.Ab
