/- What one call of each function does, written out: by evaluation; conditions: none. -/
import Derived.KernelRfl
import Derived.Test.YthjhgegilibadaaDoorT
namespace Go.Ab
set_option linter.unusedVariables false
set_option linter.unusedSimpArgs false
set_option linter.unusedVariables false
set_option maxHeartbeats 2000000
set_option maxRecDepth 100000
def S70_2 (p0 : List (List V)) (p1 : List (List V)) (p2 : Int) (p3 : List (List V)) (p4 : Int) (p5 : Int) : St := ⟨(sp 0 36 [(0, .slice .any p0), (1, .slice .any p1), (4, .int .i64 p2), (9, .slice .any p3), (10, .int .i64 p4), (11, .int .i64 p5)]), []⟩
theorem e70_2 (C : CallT) (r0 : List (List V)) (r1 : List (List V)) (n2 : Int) (r3 : List (List V)) (n4 : Int) (n5 : Int) : roundK GD LD C 70 none 2 (S70_2 r0 r1 n2 r3 n4 n5) =
 cond (decide (n5 < n4)) (
 (getRow r3 n5 1).bind fun x0 =>
 (uncons x0).bind fun x1 =>
 (asInt .u8 (x1.1)).bind fun x2 =>
 (isNil x1.2).bind fun x3 =>
 cond (decide (n5 ≥ ((r1.length : Nat) : Int))) (
 some (.ret, (S70_2 r0 r1 1 r3 n4 n5))) (
 (getRow r1 n5 1).bind fun x4 =>
 (uncons x4).bind fun x5 =>
 (asInt .u8 (x5.1)).bind fun x6 =>
 (isNil x5.2).bind fun x7 =>
 (C.p (.func 83) [.int .u8 x2, .int .u8 x6]).bind fun x8 =>
 (asInt .i64 (x8)).bind fun x9 =>
 cond (x9 != 0) (
 some (.ret, (S70_2 r0 r1 x9 r3 n4 n5))) (
 some (.normal, (S70_2 r0 r1 n2 r3 n4 (IntKind.wrap .i64 (n5 + 1))))))) (
 some ((.exit 0), (S70_2 r0 r1 n2 r3 n4 n5))) := by kernel_rfl
theorem e70 (C : CallT) (r0 : List (List V)) (r1 : List (List V)) : run1 GD LD C (.func 70) [.slice .any r0, .slice .any r1] [] =
 (C.w (roundK GD LD C 70 none 2) (S70_2 r0 r1 0 r0 ((r0.length : Nat) : Int) 0)).bind fun x0 =>
 match x0.1 with
 | .normal =>
 none
 | .exit x2 =>
 cond (Nat.beq x2 0) (
 (asRows ((nth x0.2.t 0))).bind fun x3 =>
 (asRows ((nth x0.2.t 1))).bind fun x4 =>
 (asInt .i64 ((nth x0.2.t 4))).bind fun x5 =>
 (asRows ((nth x0.2.t 9))).bind fun x6 =>
 (asInt .i64 ((nth x0.2.t 10))).bind fun x7 =>
 (asInt .i64 ((nth x0.2.t 11))).bind fun x8 =>
 cond (decide (((x3.length : Nat) : Int) < ((x4.length : Nat) : Int))) (
 some (.int .i64 (-1), [])) (
 some (.int .i64 0, []))) (
 none)
 | .ret =>
 (asRows ((nth x0.2.t 0))).bind fun x9 =>
 (asRows ((nth x0.2.t 1))).bind fun x10 =>
 (asInt .i64 ((nth x0.2.t 4))).bind fun x11 =>
 (asRows ((nth x0.2.t 9))).bind fun x12 =>
 (asInt .i64 ((nth x0.2.t 10))).bind fun x13 =>
 (asInt .i64 ((nth x0.2.t 11))).bind fun x14 =>
 some (.int .i64 x11, []) := by kernel_rfl
theorem e83 (C : CallT) (n0 : Int) (n1 : Int) : run1 GD LD C (.func 83) [.int .u8 n0, .int .u8 n1] [] =
 (C.p (.func 92) [.int .u8 n0]).bind fun x0 =>
 (asBool (x0)).bind fun x1 =>
 (C.p (.func 92) [.int .u8 n1]).bind fun x2 =>
 (asBool (x2)).bind fun x3 =>
 cond x1 (
 cond x3 (
 some (.int .i64 0, [])) (
 some (.int .i64 (-1), []))) (
 cond x3 (
 some (.int .i64 1, [])) (
 cond (decide (n0 < n1)) (
 some (.int .i64 (-1), [])) (
 cond (decide (n0 > n1)) (
 some (.int .i64 1, [])) (
 some (.int .i64 0, []))))) := by kernel_rfl
theorem e92 (C : CallT) (n0 : Int) : run1 GD LD C (.func 92) [.int .u8 n0] [] =
 some (.bool (n0 != n0), []) := by kernel_rfl
def S93_2 (p0 : List (List V)) (p1 : Int) (p2 : Int) (p3 : Int) : St := ⟨(sp 0 19 [(0, .slice .any p0), (1, .nilfn), (4, .int .i64 p1), (7, .int .i64 p2), (8, .int .i64 p3)]), []⟩
def S93_2_in74 (p0 : List (List V)) (p1 : Int) (p2 : Int) (p3 : Int) : St := ⟨(sp 0 19 [(0, .slice .any p0), (1, .fn (.func 87) [] []), (4, .int .i64 p1), (7, .int .i64 p2), (8, .int .i64 p3)]), []⟩
theorem e93_2_in74 (C : CallT) (r0 : List (List V)) (n1 : Int) (n2 : Int) (n3 : Int) : roundK GD LD C 93 none 2 (S93_2_in74 r0 n1 n2 n3) =
 cond (decide (n3 < n2)) (
 (getRow r0 n3 1).bind fun x0 =>
 (uncons x0).bind fun x1 =>
 (asInt .u8 (x1.1)).bind fun x2 =>
 (isNil x1.2).bind fun x3 =>
 (C.p (.func 87) [.int .u8 x2]).bind fun x4 =>
 (asBool (x4)).bind fun x5 =>
 cond x5 (
 some (.ret, (S93_2_in74 r0 n3 n2 n3))) (
 some (.normal, (S93_2_in74 r0 n1 n2 (IntKind.wrap .i64 (n3 + 1)))))) (
 some ((.exit 0), (S93_2_in74 r0 n1 n2 n3))) := by kernel_rfl
theorem p93 (C : CallT) (r0 : List (List V)) : run1 GD LD C (.func 93) [.slice .any r0, .fn (.func 87) [] []] [] =
 (C.w (roundK GD LD C 93 none 2) (S93_2_in74 r0 0 ((r0.length : Nat) : Int) 0)).bind fun x0 =>
 match x0.1 with
 | .normal =>
 none
 | .exit x2 =>
 cond (Nat.beq x2 0) (
 (asRows ((nth x0.2.t 0))).bind fun x3 =>
 (asFn (.func 87) ((nth x0.2.t 1))).bind fun x4 =>
 (isNil x4.1).bind fun x5 =>
 (isNil x4.2).bind fun x6 =>
 (asInt .i64 ((nth x0.2.t 4))).bind fun x7 =>
 (asInt .i64 ((nth x0.2.t 7))).bind fun x8 =>
 (asInt .i64 ((nth x0.2.t 8))).bind fun x9 =>
 some (.int .i64 (-1), [])) (
 none)
 | .ret =>
 (asRows ((nth x0.2.t 0))).bind fun x10 =>
 (asFn (.func 87) ((nth x0.2.t 1))).bind fun x11 =>
 (isNil x11.1).bind fun x12 =>
 (isNil x11.2).bind fun x13 =>
 (asInt .i64 ((nth x0.2.t 4))).bind fun x14 =>
 (asInt .i64 ((nth x0.2.t 7))).bind fun x15 =>
 (asInt .i64 ((nth x0.2.t 8))).bind fun x16 =>
 some (.int .i64 x14, []) := by kernel_rfl
theorem p86 (C : CallT) (r0 : List (List V)) : run1 GD LD C (.func 86) [.slice .any r0, .fn (.func 87) [] []] [] =
 (C.p (.func 93) [.slice .any r0, .fn (.func 87) [] []]).bind fun x0 =>
 (asInt .i64 (x0)).bind fun x1 =>
 some (.bool (decide (x1 ≥ 0)), []) := by kernel_rfl
theorem e74 (C : CallT) (n0 : Int) (n1 : Int) (n2 : Int) (n3 : Int) (n4 : Int) (n5 : Int) : run1 GD LD C (.func 74) [.agg [.int .u8 n0, .int .u8 n1, .int .u8 n2, .int .u8 n3, .int .u8 n4, .int .u8 n5]] [] =
 (C.p (.func 86) [.slice .any [[.int .u8 n0], [.int .u8 n1], [.int .u8 n2], [.int .u8 n3], [.int .u8 n4], [.int .u8 n5]], .fn (.func 87) [] []]).bind fun x0 =>
 (asBool (x0)).bind fun x1 =>
 some (.bool x1, [.arr false 1 [[.int .u8 n0], [.int .u8 n1], [.int .u8 n2], [.int .u8 n3], [.int .u8 n4], [.int .u8 n5]]]) := by kernel_rfl
theorem e87 (C : CallT) (n0 : Int) : run1 GD LD C (.func 87) [.int .u8 n0] [] =
 some (.bool ((Int.tmod n0 2) == 1), []) := by kernel_rfl
def S44_3 (p0 : Int) (p1 : Int) (p2 : Int) (p3 : Int) (p4 : Int) (p5 : Int) (p6 : Int) (p7 : Int) : St := ⟨(sp 0 16 [(3, .int .i64 p0), (6, .agg [.int .u8 p1, .int .u8 p2, .int .u8 p3, .int .u8 p4, .int .u8 p5, .int .u8 p6]), (7, .int .i64 p7)]), []⟩
theorem e44_3 (C : CallT) (n0 : Int) (n1 : Int) (n2 : Int) (n3 : Int) (n4 : Int) (n5 : Int) (n6 : Int) (n7 : Int) : roundK GD LD C 44 none 3 (S44_3 n0 n1 n2 n3 n4 n5 n6 n7) =
 cond (decide (n7 < 6)) (
 cond (decide (0 ≤ n7)) (
 cond (decide (n7.toNat < 6)) (
 (nthI [n1, n2, n3, n4, n5, n6] (n7.toNat * 1)).bind fun x0 =>
 some (.normal, (S44_3 (IntKind.wrap .i64 (n0 + (IntKind.wrap .i64 x0))) n1 n2 n3 n4 n5 n6 (IntKind.wrap .i64 (n7 + 1))))) (
 none)) (
 none)) (
 some ((.exit 0), (S44_3 n0 n1 n2 n3 n4 n5 n6 n7))) := by kernel_rfl
theorem e44 (C : CallT) (n0 : Int) (n1 : Int) (n2 : Int) (n3 : Int) (n4 : Int) (n5 : Int) : run1 GD LD C (.func 44) [.agg [.int .u8 n0, .int .u8 n1, .int .u8 n2, .int .u8 n3, .int .u8 n4, .int .u8 n5]] [] =
 (C.w (roundK GD LD C 44 none 3) (S44_3 0 n0 n1 n2 n3 n4 n5 0)).bind fun x0 =>
 match x0.1 with
 | .normal =>
 none
 | .exit x2 =>
 cond (Nat.beq x2 0) (
 (asInt .i64 ((nth x0.2.t 3))).bind fun x3 =>
 (asCells ((nth x0.2.t 6))).bind fun x4 =>
 (uncons x4).bind fun x5 =>
 (asInt .u8 (x5.1)).bind fun x6 =>
 (uncons x5.2).bind fun x7 =>
 (asInt .u8 (x7.1)).bind fun x8 =>
 (uncons x7.2).bind fun x9 =>
 (asInt .u8 (x9.1)).bind fun x10 =>
 (uncons x9.2).bind fun x11 =>
 (asInt .u8 (x11.1)).bind fun x12 =>
 (uncons x11.2).bind fun x13 =>
 (asInt .u8 (x13.1)).bind fun x14 =>
 (uncons x13.2).bind fun x15 =>
 (asInt .u8 (x15.1)).bind fun x16 =>
 (isNil x15.2).bind fun x17 =>
 (asInt .i64 ((nth x0.2.t 7))).bind fun x18 =>
 some (.int .i64 x3, [])) (
 none)
 | .ret =>
 none := by kernel_rfl
theorem e45 (C : CallT) (n0 : Int) (n1 : Int) (n2 : Int) (n3 : Int) (n4 : Int) (n5 : Int) (n6 : Int) (n7 : Int) (n8 : Int) (n9 : Int) (n10 : Int) (n11 : Int) : run1 GD LD C (.func 45) [.agg [.int .u8 n0, .int .u8 n1, .int .u8 n2, .int .u8 n3, .int .u8 n4, .int .u8 n5], .agg [.int .u8 n6, .int .u8 n7, .int .u8 n8, .int .u8 n9, .int .u8 n10, .int .u8 n11]] [] =
 (C.p (.func 70) [.slice .any [[.int .u8 n0], [.int .u8 n1], [.int .u8 n2], [.int .u8 n3], [.int .u8 n4], [.int .u8 n5]], .slice .any [[.int .u8 n6], [.int .u8 n7], [.int .u8 n8], [.int .u8 n9], [.int .u8 n10], [.int .u8 n11]]]).bind fun x0 =>
 (asInt .i64 (x0)).bind fun x1 =>
 some (.int .i64 x1, [.arr false 1 [[.int .u8 n0], [.int .u8 n1], [.int .u8 n2], [.int .u8 n3], [.int .u8 n4], [.int .u8 n5]], .arr false 1 [[.int .u8 n6], [.int .u8 n7], [.int .u8 n8], [.int .u8 n9], [.int .u8 n10], [.int .u8 n11]]]) := by kernel_rfl
def S9_2 (p0 : List (List V)) (p1 : Bool) (p2 : List (List V)) (p3 : Int) (p4 : Int) : St := ⟨(sp 0 47 [(0, .slice .any p0), (2, .bool p1), (5, .slice .any p2), (6, .int .i64 p3), (7, .int .i64 p4)]), []⟩
theorem e9_2 (C : CallT) (r0 : List (List V)) (b1 : Bool) (r2 : List (List V)) (n3 : Int) (n4 : Int) : roundK GD LD C 9 none 2 (S9_2 r0 b1 r2 n3 n4) =
 cond (decide (n4 < n3)) (
 (getRow r2 n4 7).bind fun x0 =>
 (uncons x0).bind fun x1 =>
 (asInt .i64 (x1.1)).bind fun x2 =>
 (uncons x1.2).bind fun x3 =>
 (asInt .u8 (x3.1)).bind fun x4 =>
 (uncons x3.2).bind fun x5 =>
 (asInt .u8 (x5.1)).bind fun x6 =>
 (uncons x5.2).bind fun x7 =>
 (asInt .u8 (x7.1)).bind fun x8 =>
 (uncons x7.2).bind fun x9 =>
 (asInt .u8 (x9.1)).bind fun x10 =>
 (uncons x9.2).bind fun x11 =>
 (asInt .u8 (x11.1)).bind fun x12 =>
 (uncons x11.2).bind fun x13 =>
 (asInt .u8 (x13.1)).bind fun x14 =>
 (isNil x13.2).bind fun x15 =>
 (C.p (.func 43) [.int .i64 x2]).bind fun x16 =>
 (asBool (x16)).bind fun x17 =>
 cond (!x17) (
 some (.ret, (S9_2 r0 false r2 n3 n4))) (
 cond (x2 == 0) (
 some (.ret, (S9_2 r0 false r2 n3 n4))) (
 (C.p (.func 44) [.agg [.int .u8 x4, .int .u8 x6, .int .u8 x8, .int .u8 x10, .int .u8 x12, .int .u8 x14]]).bind fun x18 =>
 (asInt .i64 (x18)).bind fun x19 =>
 cond (decide (x19 > 6)) (
 some (.ret, (S9_2 r0 false r2 n3 n4))) (
 cond (decide (n4 > 0)) (
 (getRow r0 (IntKind.wrap .i64 (n4 - 1)) 7).bind fun x20 =>
 (uncons x20).bind fun x21 =>
 (asInt .i64 (x21.1)).bind fun x22 =>
 (uncons x21.2).bind fun x23 =>
 (asInt .u8 (x23.1)).bind fun x24 =>
 (uncons x23.2).bind fun x25 =>
 (asInt .u8 (x25.1)).bind fun x26 =>
 (uncons x25.2).bind fun x27 =>
 (asInt .u8 (x27.1)).bind fun x28 =>
 (uncons x27.2).bind fun x29 =>
 (asInt .u8 (x29.1)).bind fun x30 =>
 (uncons x29.2).bind fun x31 =>
 (asInt .u8 (x31.1)).bind fun x32 =>
 (uncons x31.2).bind fun x33 =>
 (asInt .u8 (x33.1)).bind fun x34 =>
 (isNil x33.2).bind fun x35 =>
 (C.p (.func 45) [.agg [.int .u8 x24, .int .u8 x26, .int .u8 x28, .int .u8 x30, .int .u8 x32, .int .u8 x34], .agg [.int .u8 x4, .int .u8 x6, .int .u8 x8, .int .u8 x10, .int .u8 x12, .int .u8 x14]]).bind fun x36 =>
 (asInt .i64 (x36)).bind fun x37 =>
 cond (decide (x37 ≥ 0)) (
 some (.ret, (S9_2 r0 false r2 n3 n4))) (
 some (.normal, (S9_2 r0 b1 r2 n3 (IntKind.wrap .i64 (n4 + 1)))))) (
 some (.normal, (S9_2 r0 b1 r2 n3 (IntKind.wrap .i64 (n4 + 1))))))))) (
 some ((.exit 0), (S9_2 r0 b1 r2 n3 n4))) := by kernel_rfl
theorem e9 (C : CallT) (r0 : List (List V)) : run1 GD LD C (.func 9) [.slice .any r0] [] =
 (C.w (roundK GD LD C 9 none 2) (S9_2 r0 false r0 ((r0.length : Nat) : Int) 0)).bind fun x0 =>
 match x0.1 with
 | .normal =>
 none
 | .exit x2 =>
 cond (Nat.beq x2 0) (
 (asRows ((nth x0.2.t 0))).bind fun x3 =>
 (asBool ((nth x0.2.t 2))).bind fun x4 =>
 (asRows ((nth x0.2.t 5))).bind fun x5 =>
 (asInt .i64 ((nth x0.2.t 6))).bind fun x6 =>
 (asInt .i64 ((nth x0.2.t 7))).bind fun x7 =>
 some (.bool (decide (((x3.length : Nat) : Int) ≤ 100)), [])) (
 none)
 | .ret =>
 (asRows ((nth x0.2.t 0))).bind fun x8 =>
 (asBool ((nth x0.2.t 2))).bind fun x9 =>
 (asRows ((nth x0.2.t 5))).bind fun x10 =>
 (asInt .i64 ((nth x0.2.t 6))).bind fun x11 =>
 (asInt .i64 ((nth x0.2.t 7))).bind fun x12 =>
 some (.bool x9, []) := by kernel_rfl
def S13_2 (p0 : List (List V)) (p1 : List (List V)) (p2 : Int) (p3 : Int) (p4 : Nat) (p5 : List (List V)) : St := ⟨(sp 0 67 [(0, .slice .any p0), (1, .slice .any p1), (5, .box [.int .i64 p2, .int .i64 p3]), (6, .arr 0 p4 7)]), [.arr true 7 p5]⟩
theorem e13_2 (C : CallT) (r0 : List (List V)) (r1 : List (List V)) (r2 : List (List V)) (n3 : Int) (n4 : Int) : roundK GD LD C 13 none 2 (S13_2 r1 r2 n3 n4 r0.length r0) =
 cond (((r1.length : Nat) : Int) == 0) (
 cond (headIs 7 r2) (
 cond (decide (r0.length = r0.length)) (
 cond (decide (((r0.length + r2.length) * 16) ≤ room)) (
 some ((.exit 0), (S13_2 r1 r2 n3 n4 (r0.length + r2.length) (List.append r0 r2)))) (
 none)) (
 none)) (
 none)) (
 cond (((r2.length : Nat) : Int) == 0) (
 cond (headIs 7 r1) (
 cond (decide (r0.length = r0.length)) (
 cond (decide (((r0.length + r1.length) * 16) ≤ room)) (
 some ((.exit 0), (S13_2 r1 r2 n3 n4 (r0.length + r1.length) (List.append r0 r1)))) (
 none)) (
 none)) (
 none)) (
 (getRow r1 0 7).bind fun x0 =>
 (uncons x0).bind fun x1 =>
 (asInt .i64 (x1.1)).bind fun x2 =>
 (uncons x1.2).bind fun x3 =>
 (asInt .u8 (x3.1)).bind fun x4 =>
 (uncons x3.2).bind fun x5 =>
 (asInt .u8 (x5.1)).bind fun x6 =>
 (uncons x5.2).bind fun x7 =>
 (asInt .u8 (x7.1)).bind fun x8 =>
 (uncons x7.2).bind fun x9 =>
 (asInt .u8 (x9.1)).bind fun x10 =>
 (uncons x9.2).bind fun x11 =>
 (asInt .u8 (x11.1)).bind fun x12 =>
 (uncons x11.2).bind fun x13 =>
 (asInt .u8 (x13.1)).bind fun x14 =>
 (isNil x13.2).bind fun x15 =>
 (getRow r1 0 7).bind fun x16 =>
 (uncons x16).bind fun x17 =>
 (asInt .i64 (x17.1)).bind fun x18 =>
 (uncons x17.2).bind fun x19 =>
 (asInt .u8 (x19.1)).bind fun x20 =>
 (uncons x19.2).bind fun x21 =>
 (asInt .u8 (x21.1)).bind fun x22 =>
 (uncons x21.2).bind fun x23 =>
 (asInt .u8 (x23.1)).bind fun x24 =>
 (uncons x23.2).bind fun x25 =>
 (asInt .u8 (x25.1)).bind fun x26 =>
 (uncons x25.2).bind fun x27 =>
 (asInt .u8 (x27.1)).bind fun x28 =>
 (uncons x27.2).bind fun x29 =>
 (asInt .u8 (x29.1)).bind fun x30 =>
 (isNil x29.2).bind fun x31 =>
 (getRow r2 0 7).bind fun x32 =>
 (uncons x32).bind fun x33 =>
 (asInt .i64 (x33.1)).bind fun x34 =>
 (uncons x33.2).bind fun x35 =>
 (asInt .u8 (x35.1)).bind fun x36 =>
 (uncons x35.2).bind fun x37 =>
 (asInt .u8 (x37.1)).bind fun x38 =>
 (uncons x37.2).bind fun x39 =>
 (asInt .u8 (x39.1)).bind fun x40 =>
 (uncons x39.2).bind fun x41 =>
 (asInt .u8 (x41.1)).bind fun x42 =>
 (uncons x41.2).bind fun x43 =>
 (asInt .u8 (x43.1)).bind fun x44 =>
 (uncons x43.2).bind fun x45 =>
 (asInt .u8 (x45.1)).bind fun x46 =>
 (isNil x45.2).bind fun x47 =>
 (C.p (.func 45) [.agg [.int .u8 x20, .int .u8 x22, .int .u8 x24, .int .u8 x26, .int .u8 x28, .int .u8 x30], .agg [.int .u8 x36, .int .u8 x38, .int .u8 x40, .int .u8 x42, .int .u8 x44, .int .u8 x46]]).bind fun x48 =>
 (asInt .i64 (x48)).bind fun x49 =>
 cond (decide (x49 > 0)) (
 (getRow r2 0 7).bind fun x66 =>
 (uncons x66).bind fun x67 =>
 (asInt .i64 (x67.1)).bind fun x68 =>
 (uncons x67.2).bind fun x69 =>
 (asInt .u8 (x69.1)).bind fun x70 =>
 (uncons x69.2).bind fun x71 =>
 (asInt .u8 (x71.1)).bind fun x72 =>
 (uncons x71.2).bind fun x73 =>
 (asInt .u8 (x73.1)).bind fun x74 =>
 (uncons x73.2).bind fun x75 =>
 (asInt .u8 (x75.1)).bind fun x76 =>
 (uncons x75.2).bind fun x77 =>
 (asInt .u8 (x77.1)).bind fun x78 =>
 (uncons x77.2).bind fun x79 =>
 (asInt .u8 (x79.1)).bind fun x80 =>
 (isNil x79.2).bind fun x81 =>
 cond (x49 == 0) (
 (getRow r2 0 7).bind fun x82 =>
 (uncons x82).bind fun x83 =>
 (asInt .i64 (x83.1)).bind fun x84 =>
 (uncons x83.2).bind fun x85 =>
 (asInt .u8 (x85.1)).bind fun x86 =>
 (uncons x85.2).bind fun x87 =>
 (asInt .u8 (x87.1)).bind fun x88 =>
 (uncons x87.2).bind fun x89 =>
 (asInt .u8 (x89.1)).bind fun x90 =>
 (uncons x89.2).bind fun x91 =>
 (asInt .u8 (x91.1)).bind fun x92 =>
 (uncons x91.2).bind fun x93 =>
 (asInt .u8 (x93.1)).bind fun x94 =>
 (uncons x93.2).bind fun x95 =>
 (asInt .u8 (x95.1)).bind fun x96 =>
 (isNil x95.2).bind fun x97 =>
 cond (decide (x49 ≤ 0)) (
 cond (decide (1 ≤ r1.length)) (
 cond (headIs 7 r1) (
 cond (decide (x49 ≥ 0)) (
 cond (decide (1 ≤ r2.length)) (
 cond (headIs 7 r2) (
 cond (decide (r0.length = r0.length)) (
 cond (decide (((r0.length + 1) * 16) ≤ room)) (
 some (.normal, (S13_2 ((r1.take r1.length).drop 1) ((r2.take r2.length).drop 1) n3 n4 (r0.length + 1) (List.append r0 [[.int .i64 (IntKind.wrap .i64 (x68 + x84)), .int .u8 x70, .int .u8 x72, .int .u8 x74, .int .u8 x76, .int .u8 x78, .int .u8 x80]])))) (
 none)) (
 none)) (
 none)) (
 none)) (
 cond (decide (r0.length = r0.length)) (
 cond (decide (((r0.length + 1) * 16) ≤ room)) (
 some (.normal, (S13_2 ((r1.take r1.length).drop 1) r2 n3 n4 (r0.length + 1) (List.append r0 [[.int .i64 (IntKind.wrap .i64 (x68 + x84)), .int .u8 x70, .int .u8 x72, .int .u8 x74, .int .u8 x76, .int .u8 x78, .int .u8 x80]])))) (
 none)) (
 none))) (
 none)) (
 none)) (
 cond (decide (x49 ≥ 0)) (
 cond (decide (1 ≤ r2.length)) (
 cond (headIs 7 r2) (
 cond (decide (r0.length = r0.length)) (
 cond (decide (((r0.length + 1) * 16) ≤ room)) (
 some (.normal, (S13_2 r1 ((r2.take r2.length).drop 1) n3 n4 (r0.length + 1) (List.append r0 [[.int .i64 (IntKind.wrap .i64 (x68 + x84)), .int .u8 x70, .int .u8 x72, .int .u8 x74, .int .u8 x76, .int .u8 x78, .int .u8 x80]])))) (
 none)) (
 none)) (
 none)) (
 none)) (
 cond (decide (r0.length = r0.length)) (
 cond (decide (((r0.length + 1) * 16) ≤ room)) (
 some (.normal, (S13_2 r1 r2 n3 n4 (r0.length + 1) (List.append r0 [[.int .i64 (IntKind.wrap .i64 (x68 + x84)), .int .u8 x70, .int .u8 x72, .int .u8 x74, .int .u8 x76, .int .u8 x78, .int .u8 x80]])))) (
 none)) (
 none)))) (
 cond (decide (x49 ≤ 0)) (
 cond (decide (1 ≤ r1.length)) (
 cond (headIs 7 r1) (
 cond (decide (x49 ≥ 0)) (
 cond (decide (1 ≤ r2.length)) (
 cond (headIs 7 r2) (
 cond (decide (r0.length = r0.length)) (
 cond (decide (((r0.length + 1) * 16) ≤ room)) (
 some (.normal, (S13_2 ((r1.take r1.length).drop 1) ((r2.take r2.length).drop 1) n3 n4 (r0.length + 1) (List.append r0 [[.int .i64 x68, .int .u8 x70, .int .u8 x72, .int .u8 x74, .int .u8 x76, .int .u8 x78, .int .u8 x80]])))) (
 none)) (
 none)) (
 none)) (
 none)) (
 cond (decide (r0.length = r0.length)) (
 cond (decide (((r0.length + 1) * 16) ≤ room)) (
 some (.normal, (S13_2 ((r1.take r1.length).drop 1) r2 n3 n4 (r0.length + 1) (List.append r0 [[.int .i64 x68, .int .u8 x70, .int .u8 x72, .int .u8 x74, .int .u8 x76, .int .u8 x78, .int .u8 x80]])))) (
 none)) (
 none))) (
 none)) (
 none)) (
 cond (decide (x49 ≥ 0)) (
 cond (decide (1 ≤ r2.length)) (
 cond (headIs 7 r2) (
 cond (decide (r0.length = r0.length)) (
 cond (decide (((r0.length + 1) * 16) ≤ room)) (
 some (.normal, (S13_2 r1 ((r2.take r2.length).drop 1) n3 n4 (r0.length + 1) (List.append r0 [[.int .i64 x68, .int .u8 x70, .int .u8 x72, .int .u8 x74, .int .u8 x76, .int .u8 x78, .int .u8 x80]])))) (
 none)) (
 none)) (
 none)) (
 none)) (
 cond (decide (r0.length = r0.length)) (
 cond (decide (((r0.length + 1) * 16) ≤ room)) (
 some (.normal, (S13_2 r1 r2 n3 n4 (r0.length + 1) (List.append r0 [[.int .i64 x68, .int .u8 x70, .int .u8 x72, .int .u8 x74, .int .u8 x76, .int .u8 x78, .int .u8 x80]])))) (
 none)) (
 none))))) (
 cond (x49 == 0) (
 (getRow r2 0 7).bind fun x50 =>
 (uncons x50).bind fun x51 =>
 (asInt .i64 (x51.1)).bind fun x52 =>
 (uncons x51.2).bind fun x53 =>
 (asInt .u8 (x53.1)).bind fun x54 =>
 (uncons x53.2).bind fun x55 =>
 (asInt .u8 (x55.1)).bind fun x56 =>
 (uncons x55.2).bind fun x57 =>
 (asInt .u8 (x57.1)).bind fun x58 =>
 (uncons x57.2).bind fun x59 =>
 (asInt .u8 (x59.1)).bind fun x60 =>
 (uncons x59.2).bind fun x61 =>
 (asInt .u8 (x61.1)).bind fun x62 =>
 (uncons x61.2).bind fun x63 =>
 (asInt .u8 (x63.1)).bind fun x64 =>
 (isNil x63.2).bind fun x65 =>
 cond (decide (x49 ≤ 0)) (
 cond (decide (1 ≤ r1.length)) (
 cond (headIs 7 r1) (
 cond (decide (x49 ≥ 0)) (
 cond (decide (1 ≤ r2.length)) (
 cond (headIs 7 r2) (
 cond (decide (r0.length = r0.length)) (
 cond (decide (((r0.length + 1) * 16) ≤ room)) (
 some (.normal, (S13_2 ((r1.take r1.length).drop 1) ((r2.take r2.length).drop 1) n3 n4 (r0.length + 1) (List.append r0 [[.int .i64 (IntKind.wrap .i64 (x2 + x52)), .int .u8 x4, .int .u8 x6, .int .u8 x8, .int .u8 x10, .int .u8 x12, .int .u8 x14]])))) (
 none)) (
 none)) (
 none)) (
 none)) (
 cond (decide (r0.length = r0.length)) (
 cond (decide (((r0.length + 1) * 16) ≤ room)) (
 some (.normal, (S13_2 ((r1.take r1.length).drop 1) r2 n3 n4 (r0.length + 1) (List.append r0 [[.int .i64 (IntKind.wrap .i64 (x2 + x52)), .int .u8 x4, .int .u8 x6, .int .u8 x8, .int .u8 x10, .int .u8 x12, .int .u8 x14]])))) (
 none)) (
 none))) (
 none)) (
 none)) (
 cond (decide (x49 ≥ 0)) (
 cond (decide (1 ≤ r2.length)) (
 cond (headIs 7 r2) (
 cond (decide (r0.length = r0.length)) (
 cond (decide (((r0.length + 1) * 16) ≤ room)) (
 some (.normal, (S13_2 r1 ((r2.take r2.length).drop 1) n3 n4 (r0.length + 1) (List.append r0 [[.int .i64 (IntKind.wrap .i64 (x2 + x52)), .int .u8 x4, .int .u8 x6, .int .u8 x8, .int .u8 x10, .int .u8 x12, .int .u8 x14]])))) (
 none)) (
 none)) (
 none)) (
 none)) (
 cond (decide (r0.length = r0.length)) (
 cond (decide (((r0.length + 1) * 16) ≤ room)) (
 some (.normal, (S13_2 r1 r2 n3 n4 (r0.length + 1) (List.append r0 [[.int .i64 (IntKind.wrap .i64 (x2 + x52)), .int .u8 x4, .int .u8 x6, .int .u8 x8, .int .u8 x10, .int .u8 x12, .int .u8 x14]])))) (
 none)) (
 none)))) (
 cond (decide (x49 ≤ 0)) (
 cond (decide (1 ≤ r1.length)) (
 cond (headIs 7 r1) (
 cond (decide (x49 ≥ 0)) (
 cond (decide (1 ≤ r2.length)) (
 cond (headIs 7 r2) (
 cond (decide (r0.length = r0.length)) (
 cond (decide (((r0.length + 1) * 16) ≤ room)) (
 some (.normal, (S13_2 ((r1.take r1.length).drop 1) ((r2.take r2.length).drop 1) n3 n4 (r0.length + 1) (List.append r0 [[.int .i64 x2, .int .u8 x4, .int .u8 x6, .int .u8 x8, .int .u8 x10, .int .u8 x12, .int .u8 x14]])))) (
 none)) (
 none)) (
 none)) (
 none)) (
 cond (decide (r0.length = r0.length)) (
 cond (decide (((r0.length + 1) * 16) ≤ room)) (
 some (.normal, (S13_2 ((r1.take r1.length).drop 1) r2 n3 n4 (r0.length + 1) (List.append r0 [[.int .i64 x2, .int .u8 x4, .int .u8 x6, .int .u8 x8, .int .u8 x10, .int .u8 x12, .int .u8 x14]])))) (
 none)) (
 none))) (
 none)) (
 none)) (
 cond (decide (x49 ≥ 0)) (
 cond (decide (1 ≤ r2.length)) (
 cond (headIs 7 r2) (
 cond (decide (r0.length = r0.length)) (
 cond (decide (((r0.length + 1) * 16) ≤ room)) (
 some (.normal, (S13_2 r1 ((r2.take r2.length).drop 1) n3 n4 (r0.length + 1) (List.append r0 [[.int .i64 x2, .int .u8 x4, .int .u8 x6, .int .u8 x8, .int .u8 x10, .int .u8 x12, .int .u8 x14]])))) (
 none)) (
 none)) (
 none)) (
 none)) (
 cond (decide (r0.length = r0.length)) (
 cond (decide (((r0.length + 1) * 16) ≤ room)) (
 some (.normal, (S13_2 r1 r2 n3 n4 (r0.length + 1) (List.append r0 [[.int .i64 x2, .int .u8 x4, .int .u8 x6, .int .u8 x8, .int .u8 x10, .int .u8 x12, .int .u8 x14]])))) (
 none)) (
 none))))))) := by kernel_rfl
theorem e13 (C : CallT) (r0 : List (List V)) (r1 : List (List V)) : run1 GD LD C (.func 13) [.slice .any r0, .slice .any r1] [] =
 (C.w (roundK GD LD C 13 none 2) (S13_2 r0 r1 0 0 0 [])).bind fun x0 =>
 match x0.1 with
 | .normal =>
 none
 | .exit x2 =>
 cond (Nat.beq x2 0) (
 (asRows ((nth x0.2.t 0))).bind fun x27 =>
 (asRows ((nth x0.2.t 1))).bind fun x28 =>
 (asBox ((nth x0.2.t 5))).bind fun x29 =>
 (uncons x29).bind fun x30 =>
 (asInt .i64 (x30.1)).bind fun x31 =>
 (uncons x30.2).bind fun x32 =>
 (asInt .i64 (x32.1)).bind fun x33 =>
 (isNil x32.2).bind fun x34 =>
 (asArr 0 7 ((nth x0.2.t 6))).bind fun x35 =>
 (unconsO x0.2.h).bind fun x36 =>
 (asObArr true 7 x36.1).bind fun x37 =>
 (arrRows [.arr true 7 x37] 0 x35).bind fun x38 =>
 (C.p (.func 52) [.slice .any x38, .int .i64 6, .agg [.int .i64 0, .int .i64 0]]).bind fun x39 =>
 (asTuple (x39)).bind fun x40 =>
 (uncons x40).bind fun x41 =>
 (asRows (x41.1)).bind fun x42 =>
 (uncons x41.2).bind fun x43 =>
 (asCells (x43.1)).bind fun x44 =>
 (uncons x44).bind fun x45 =>
 (asInt .i64 (x45.1)).bind fun x46 =>
 (uncons x45.2).bind fun x47 =>
 (asInt .i64 (x47.1)).bind fun x48 =>
 (isNil x47.2).bind fun x49 =>
 (isNil x43.2).bind fun x50 =>
 some (.tuple [.slice .any x42, .agg [.int .i64 x46, .int .i64 x48]], [.arr false 7 x37])) (
 cond (Nat.beq x2 0) (
 (asRows ((nth x0.2.t 0))).bind fun x3 =>
 (asRows ((nth x0.2.t 1))).bind fun x4 =>
 (asBox ((nth x0.2.t 5))).bind fun x5 =>
 (uncons x5).bind fun x6 =>
 (asInt .i64 (x6.1)).bind fun x7 =>
 (uncons x6.2).bind fun x8 =>
 (asInt .i64 (x8.1)).bind fun x9 =>
 (isNil x8.2).bind fun x10 =>
 (asArr 0 7 ((nth x0.2.t 6))).bind fun x11 =>
 (unconsO x0.2.h).bind fun x12 =>
 (asObArr true 7 x12.1).bind fun x13 =>
 (arrRows [.arr true 7 x13] 0 x11).bind fun x14 =>
 (C.p (.func 52) [.slice .any x14, .int .i64 6, .agg [.int .i64 0, .int .i64 0]]).bind fun x15 =>
 (asTuple (x15)).bind fun x16 =>
 (uncons x16).bind fun x17 =>
 (asRows (x17.1)).bind fun x18 =>
 (uncons x17.2).bind fun x19 =>
 (asCells (x19.1)).bind fun x20 =>
 (uncons x20).bind fun x21 =>
 (asInt .i64 (x21.1)).bind fun x22 =>
 (uncons x21.2).bind fun x23 =>
 (asInt .i64 (x23.1)).bind fun x24 =>
 (isNil x23.2).bind fun x25 =>
 (isNil x19.2).bind fun x26 =>
 some (.tuple [.slice .any x18, .agg [.int .i64 x22, .int .i64 x24]], [.arr false 7 x13])) (
 none))
 | .ret =>
 none := by kernel_rfl
def S15_4 (p0 : List (List V)) (p1 : Int) (p2 : Int) (p3 : Int) (p4 : List (List V)) (p5 : Int) (p6 : Int) (p7 : List (List V × List V)) (p8 : Int) (p9 : Int) : St := ⟨(sp 0 95 [(1, .slice .any p0), (2, .int .i64 p1), (7, .box [.int .i64 p2, .int .i64 p3]), (8, .map 0), (9, .ptr 1 0), (23, .slice .any p4), (24, .int .i64 p5), (25, .int .i64 p6)]), [.map true false 6 p7, .cells [.int .i64 p8, .int .i64 p9]]⟩
def S15_7 (p0 : List (List V)) (p1 : Int) (p2 : Int) (p3 : Int) (p4 : Int) (p5 : Int) (p6 : Int) (p7 : Int) (p8 : Int) (p9 : Int) (p10 : Int) (p11 : List (List V)) (p12 : Int) (p13 : Int) (p14 : List (List V)) (p15 : Int) (p16 : Int) (p17 : List (List V × List V)) (p18 : Int) (p19 : Int) : St := ⟨(sp 0 95 [(1, .slice .any p0), (2, .int .i64 p1), (7, .box [.int .i64 p2, .int .i64 p3]), (8, .map 0), (9, .ptr 1 0), (11, .box [.int .i64 p4, .int .u8 p5, .int .u8 p6, .int .u8 p7, .int .u8 p8, .int .u8 p9, .int .u8 p10]), (23, .slice .any p11), (24, .int .i64 p12), (25, .int .i64 p13), (29, .slice .any p14), (30, .int .i64 p15), (31, .int .i64 p16)]), [.map true false 6 p17, .cells [.int .i64 p18, .int .i64 p19]]⟩
def S15_11 (p0 : List (List V)) (p1 : Int) (p2 : Int) (p3 : Int) (p4 : Int) (p5 : Int) (p6 : Int) (p7 : Int) (p8 : Int) (p9 : Int) (p10 : Int) (p11 : Int) (p12 : Int) (p13 : Int) (p14 : Int) (p15 : Int) (p16 : Int) (p17 : Int) (p18 : Int) (p19 : Int) (p20 : Int) (p21 : Int) (p22 : Int) (p23 : Int) (p24 : List (List V)) (p25 : Int) (p26 : Int) (p27 : List (List V)) (p28 : Int) (p29 : Int) (p30 : Int) (p31 : Int) (p32 : Int) (p33 : Int) (p34 : Int) (p35 : Int) (p36 : Int) (p37 : List (List V × List V)) (p38 : Int) (p39 : Int) : St := ⟨(sp 0 95 [(1, .slice .any p0), (2, .int .i64 p1), (7, .box [.int .i64 p2, .int .i64 p3]), (8, .map 0), (9, .ptr 1 0), (11, .box [.int .i64 p4, .int .u8 p5, .int .u8 p6, .int .u8 p7, .int .u8 p8, .int .u8 p9, .int .u8 p10]), (13, .box [.int .i64 p11, .int .u8 p12, .int .u8 p13, .int .u8 p14, .int .u8 p15, .int .u8 p16, .int .u8 p17]), (14, .box [.int .u8 p18, .int .u8 p19, .int .u8 p20, .int .u8 p21, .int .u8 p22, .int .u8 p23]), (23, .slice .any p24), (24, .int .i64 p25), (25, .int .i64 p26), (29, .slice .any p27), (30, .int .i64 p28), (31, .int .i64 p29), (38, .agg [.int .u8 p30, .int .u8 p31, .int .u8 p32, .int .u8 p33, .int .u8 p34, .int .u8 p35]), (39, .int .i64 p36)]), [.map true false 6 p37, .cells [.int .i64 p38, .int .i64 p39]]⟩
def S15_23 (p0 : Int) (p1 : Int) (p2 : Int) (p3 : Nat) (p4 : List (List V)) (p5 : Int) (p6 : Int) (p7 : List (List V × List V)) (p8 : Int) (p9 : Int) (p10 : List (List V)) : St := ⟨(sp 0 95 [(2, .int .i64 p0), (7, .box [.int .i64 p1, .int .i64 p2]), (8, .map 0), (9, .ptr 1 0), (19, .arr 2 p3 7), (74, .slice .any p4), (75, .int .i64 p5), (76, .int .i64 p6)]), [.map true false 6 p7, .cells [.int .i64 p8, .int .i64 p9], .arr true 7 p10, .cells [.map 0]]⟩
theorem e15_23 (C : CallT) (r0 : List (List V)) (m1 : List (List V × List V)) (n2 : Int) (n3 : Int) (n4 : Int) (n5 : Int) (n6 : Int) (r7 : List (List V)) (n8 : Int) (n9 : Int) : roundK GD LD C 15 none 23 (S15_23 n4 n5 n6 r0.length r7 n8 n9 m1 n2 n3 r0) =
 cond (decide (n9 < n8)) (
 (getRow r7 n9 6).bind fun x0 =>
 (uncons x0).bind fun x1 =>
 (asInt .u8 (x1.1)).bind fun x2 =>
 (uncons x1.2).bind fun x3 =>
 (asInt .u8 (x3.1)).bind fun x4 =>
 (uncons x3.2).bind fun x5 =>
 (asInt .u8 (x5.1)).bind fun x6 =>
 (uncons x5.2).bind fun x7 =>
 (asInt .u8 (x7.1)).bind fun x8 =>
 (uncons x7.2).bind fun x9 =>
 (asInt .u8 (x9.1)).bind fun x10 =>
 (uncons x9.2).bind fun x11 =>
 (asInt .u8 (x11.1)).bind fun x12 =>
 (isNil x11.2).bind fun x13 =>
 (mfind (eqT GP 8 52) [.int .u8 x2, .int .u8 x4, .int .u8 x6, .int .u8 x8, .int .u8 x10, .int .u8 x12] m1).bind fun x14 =>
 match x14 with
 | none =>
 cond (decide (r0.length = r0.length)) (
 cond (decide (((r0.length + 1) * 16) ≤ room)) (
 some (.normal, (S15_23 n4 n5 n6 (r0.length + 1) r7 n8 (IntKind.wrap .i64 (n9 + 1)) m1 n2 n3 (List.append r0 [[.int .i64 0, .int .u8 x2, .int .u8 x4, .int .u8 x6, .int .u8 x8, .int .u8 x10, .int .u8 x12]])))) (
 none)) (
 none)
 | some x15 =>
 (mval m1 x15).bind fun x16 =>
 (uncons x16).bind fun x17 =>
 (asInt .i64 (x17.1)).bind fun x18 =>
 (isNil x17.2).bind fun x19 =>
 cond (decide (r0.length = r0.length)) (
 cond (decide (((r0.length + 1) * 16) ≤ room)) (
 some (.normal, (S15_23 n4 n5 n6 (r0.length + 1) r7 n8 (IntKind.wrap .i64 (n9 + 1)) m1 n2 n3 (List.append r0 [[.int .i64 x18, .int .u8 x2, .int .u8 x4, .int .u8 x6, .int .u8 x8, .int .u8 x10, .int .u8 x12]])))) (
 none)) (
 none)) (
 some ((.exit 6), (S15_23 n4 n5 n6 r0.length r7 n8 n9 m1 n2 n3 r0))) := by kernel_rfl
theorem s58_in15 (C : CallT) (r0 : List (List V)) (m1 : List (List V × List V)) (n2 : Int) (n3 : Int) : run1 GD LD C (.func 58) [.map 0] [.map true false 6 m1, .cells [.int .i64 n2, .int .i64 n3], .arr true 7 r0] =
 some (.fn (.func 77) [] [.ptr 3 0], [.map true false 6 m1, .cells [.int .i64 n2, .int .i64 n3], .arr true 7 r0, .cells [.map 0]]) := by kernel_rfl
theorem s56_in15 (C : CallT) (m0 : List (List V × List V)) (n1 : Int) (n2 : Int) (n3 : Int) (n4 : Int) (n5 : Int) (n6 : Int) (n7 : Int) (n8 : Int) : run1 GD LD C (.func 56) [.ptr 1 0, .agg [.int .u8 n3, .int .u8 n4, .int .u8 n5, .int .u8 n6, .int .u8 n7, .int .u8 n8]] [.map true false 6 m0, .cells [.int .i64 n1, .int .i64 n2]] =
 (C.p (.func 74) [.agg [.int .u8 n3, .int .u8 n4, .int .u8 n5, .int .u8 n6, .int .u8 n7, .int .u8 n8]]).bind fun x0 =>
 (asBool (x0)).bind fun x1 =>
 cond x1 (
 some (.tuple [], [.map true false 6 m0, .cells [.int .i64 (IntKind.wrap .i64 (n1 - 1)), .int .i64 (IntKind.wrap .i64 (n2 + 1))]])) (
 some (.tuple [], [.map true false 6 m0, .cells [.int .i64 n1, .int .i64 (IntKind.wrap .i64 (n2 + 1))]])) := by kernel_rfl
theorem e15_11 (C : CallT) (m0 : List (List V × List V)) (n1 : Int) (n2 : Int) (r3 : List (List V)) (n4 : Int) (n5 : Int) (n6 : Int) (n7 : Int) (n8 : Int) (n9 : Int) (n10 : Int) (n11 : Int) (n12 : Int) (n13 : Int) (n14 : Int) (n15 : Int) (n16 : Int) (n17 : Int) (n18 : Int) (n19 : Int) (n20 : Int) (n21 : Int) (n22 : Int) (n23 : Int) (n24 : Int) (n25 : Int) (n26 : Int) (r27 : List (List V)) (n28 : Int) (n29 : Int) (r30 : List (List V)) (n31 : Int) (n32 : Int) (n33 : Int) (n34 : Int) (n35 : Int) (n36 : Int) (n37 : Int) (n38 : Int) (n39 : Int) : roundK GD LD C 15 none 11 (S15_11 r3 n4 n5 n6 n7 n8 n9 n10 n11 n12 n13 n14 n15 n16 n17 n18 n19 n20 n21 n22 n23 n24 n25 n26 r27 n28 n29 r30 n31 n32 n33 n34 n35 n36 n37 n38 n39 m0 n1 n2) =
 cond (decide (n39 < 6)) (
 cond (decide (0 ≤ n39)) (
 cond (decide (n39.toNat < 6)) (
 (nthI [n33, n34, n35, n36, n37, n38] (n39.toNat * 1)).bind fun x0 =>
 cond (decide (0 ≤ n39)) (
 cond (decide (n39.toNat < 6)) (
 (nthI [n21, n22, n23, n24, n25, n26] (n39.toNat * 1)).bind fun x1 =>
 cond (decide (0 ≤ n39)) (
 cond (decide (n39.toNat < 6)) (
 cond (Nat.blt (n39.toNat * 1) 6) (
 some (.normal, (S15_11 r3 n4 n5 n6 n7 n8 n9 n10 n11 n12 n13 n14 n15 n16 n17 n18 n19 n20 (cond (Nat.beq (n39.toNat * 1) 0) (IntKind.wrap .u8 (x1 + x0)) n21) (cond (Nat.beq (n39.toNat * 1) 1) (IntKind.wrap .u8 (x1 + x0)) n22) (cond (Nat.beq (n39.toNat * 1) 2) (IntKind.wrap .u8 (x1 + x0)) n23) (cond (Nat.beq (n39.toNat * 1) 3) (IntKind.wrap .u8 (x1 + x0)) n24) (cond (Nat.beq (n39.toNat * 1) 4) (IntKind.wrap .u8 (x1 + x0)) n25) (cond (Nat.beq (n39.toNat * 1) 5) (IntKind.wrap .u8 (x1 + x0)) n26) r27 n28 n29 r30 n31 n32 n33 n34 n35 n36 n37 n38 (IntKind.wrap .i64 (n39 + 1)) m0 n1 n2))) (
 none)) (
 none)) (
 none)) (
 none)) (
 none)) (
 none)) (
 none)) (
 some ((.exit 4), (S15_11 r3 n4 n5 n6 n7 n8 n9 n10 n11 n12 n13 n14 n15 n16 n17 n18 n19 n20 n21 n22 n23 n24 n25 n26 r27 n28 n29 r30 n31 n32 n33 n34 n35 n36 n37 n38 n39 m0 n1 n2))) := by kernel_rfl
theorem e15_7 (C : CallT) (m0 : List (List V × List V)) (n1 : Int) (n2 : Int) (r3 : List (List V)) (n4 : Int) (n5 : Int) (n6 : Int) (n7 : Int) (n8 : Int) (n9 : Int) (n10 : Int) (n11 : Int) (n12 : Int) (n13 : Int) (r14 : List (List V)) (n15 : Int) (n16 : Int) (r17 : List (List V)) (n18 : Int) (n19 : Int) : roundK GD LD C 15 none 7 (S15_7 r3 n4 n5 n6 n7 n8 n9 n10 n11 n12 n13 r14 n15 n16 r17 n18 n19 m0 n1 n2) =
 cond (decide (n19 < n18)) (
 (getRow r17 n19 7).bind fun x0 =>
 (uncons x0).bind fun x1 =>
 (asInt .i64 (x1.1)).bind fun x2 =>
 (uncons x1.2).bind fun x3 =>
 (asInt .u8 (x3.1)).bind fun x4 =>
 (uncons x3.2).bind fun x5 =>
 (asInt .u8 (x5.1)).bind fun x6 =>
 (uncons x5.2).bind fun x7 =>
 (asInt .u8 (x7.1)).bind fun x8 =>
 (uncons x7.2).bind fun x9 =>
 (asInt .u8 (x9.1)).bind fun x10 =>
 (uncons x9.2).bind fun x11 =>
 (asInt .u8 (x11.1)).bind fun x12 =>
 (uncons x11.2).bind fun x13 =>
 (asInt .u8 (x13.1)).bind fun x14 =>
 (isNil x13.2).bind fun x15 =>
 (C.w (roundK GD LD C 15 none 11) (S15_11 r3 n4 n5 n6 n7 n8 n9 n10 n11 n12 n13 x2 x4 x6 x8 x10 x12 x14 n8 n9 n10 n11 n12 n13 r14 n15 n16 r17 n18 n19 x4 x6 x8 x10 x12 x14 0 m0 n1 n2)).bind fun x16 =>
 match x16.1 with
 | .normal =>
 none
 | .exit x18 =>
 cond (Nat.beq x18 4) (
 (asRows ((nth x16.2.t 1))).bind fun x19 =>
 (asInt .i64 ((nth x16.2.t 2))).bind fun x20 =>
 (asBox ((nth x16.2.t 7))).bind fun x21 =>
 (uncons x21).bind fun x22 =>
 (asInt .i64 (x22.1)).bind fun x23 =>
 (uncons x22.2).bind fun x24 =>
 (asInt .i64 (x24.1)).bind fun x25 =>
 (isNil x24.2).bind fun x26 =>
 (asMapV 0 ((nth x16.2.t 8))).bind fun x27 =>
 (asPtr 1 0 ((nth x16.2.t 9))).bind fun x28 =>
 (asBox ((nth x16.2.t 11))).bind fun x29 =>
 (uncons x29).bind fun x30 =>
 (asInt .i64 (x30.1)).bind fun x31 =>
 (uncons x30.2).bind fun x32 =>
 (asInt .u8 (x32.1)).bind fun x33 =>
 (uncons x32.2).bind fun x34 =>
 (asInt .u8 (x34.1)).bind fun x35 =>
 (uncons x34.2).bind fun x36 =>
 (asInt .u8 (x36.1)).bind fun x37 =>
 (uncons x36.2).bind fun x38 =>
 (asInt .u8 (x38.1)).bind fun x39 =>
 (uncons x38.2).bind fun x40 =>
 (asInt .u8 (x40.1)).bind fun x41 =>
 (uncons x40.2).bind fun x42 =>
 (asInt .u8 (x42.1)).bind fun x43 =>
 (isNil x42.2).bind fun x44 =>
 (asBox ((nth x16.2.t 13))).bind fun x45 =>
 (uncons x45).bind fun x46 =>
 (asInt .i64 (x46.1)).bind fun x47 =>
 (uncons x46.2).bind fun x48 =>
 (asInt .u8 (x48.1)).bind fun x49 =>
 (uncons x48.2).bind fun x50 =>
 (asInt .u8 (x50.1)).bind fun x51 =>
 (uncons x50.2).bind fun x52 =>
 (asInt .u8 (x52.1)).bind fun x53 =>
 (uncons x52.2).bind fun x54 =>
 (asInt .u8 (x54.1)).bind fun x55 =>
 (uncons x54.2).bind fun x56 =>
 (asInt .u8 (x56.1)).bind fun x57 =>
 (uncons x56.2).bind fun x58 =>
 (asInt .u8 (x58.1)).bind fun x59 =>
 (isNil x58.2).bind fun x60 =>
 (asBox ((nth x16.2.t 14))).bind fun x61 =>
 (uncons x61).bind fun x62 =>
 (asInt .u8 (x62.1)).bind fun x63 =>
 (uncons x62.2).bind fun x64 =>
 (asInt .u8 (x64.1)).bind fun x65 =>
 (uncons x64.2).bind fun x66 =>
 (asInt .u8 (x66.1)).bind fun x67 =>
 (uncons x66.2).bind fun x68 =>
 (asInt .u8 (x68.1)).bind fun x69 =>
 (uncons x68.2).bind fun x70 =>
 (asInt .u8 (x70.1)).bind fun x71 =>
 (uncons x70.2).bind fun x72 =>
 (asInt .u8 (x72.1)).bind fun x73 =>
 (isNil x72.2).bind fun x74 =>
 (asRows ((nth x16.2.t 23))).bind fun x75 =>
 (asInt .i64 ((nth x16.2.t 24))).bind fun x76 =>
 (asInt .i64 ((nth x16.2.t 25))).bind fun x77 =>
 (asRows ((nth x16.2.t 29))).bind fun x78 =>
 (asInt .i64 ((nth x16.2.t 30))).bind fun x79 =>
 (asInt .i64 ((nth x16.2.t 31))).bind fun x80 =>
 (asCells ((nth x16.2.t 38))).bind fun x81 =>
 (uncons x81).bind fun x82 =>
 (asInt .u8 (x82.1)).bind fun x83 =>
 (uncons x82.2).bind fun x84 =>
 (asInt .u8 (x84.1)).bind fun x85 =>
 (uncons x84.2).bind fun x86 =>
 (asInt .u8 (x86.1)).bind fun x87 =>
 (uncons x86.2).bind fun x88 =>
 (asInt .u8 (x88.1)).bind fun x89 =>
 (uncons x88.2).bind fun x90 =>
 (asInt .u8 (x90.1)).bind fun x91 =>
 (uncons x90.2).bind fun x92 =>
 (asInt .u8 (x92.1)).bind fun x93 =>
 (isNil x92.2).bind fun x94 =>
 (asInt .i64 ((nth x16.2.t 39))).bind fun x95 =>
 (unconsO x16.2.h).bind fun x96 =>
 (asMap true false 6 x96.1).bind fun x97 =>
 (unconsO x96.2).bind fun x98 =>
 (asObCells x98.1).bind fun x99 =>
 (uncons x99).bind fun x100 =>
 (asInt .i64 (x100.1)).bind fun x101 =>
 (uncons x100.2).bind fun x102 =>
 (asInt .i64 (x102.1)).bind fun x103 =>
 (isNil x102.2).bind fun x104 =>
 (C.p (.func 55) [.int .i64 x31, .int .i64 x47]).bind fun x105 =>
 (asTuple (x105)).bind fun x106 =>
 (uncons x106).bind fun x107 =>
 (asInt .i64 (x107.1)).bind fun x108 =>
 (uncons x107.2).bind fun x109 =>
 (asInt .i64 (x109.1)).bind fun x110 =>
 (isNil x109.2).bind fun x111 =>
 (mfind (eqT GP 8 52) [.int .u8 x63, .int .u8 x65, .int .u8 x67, .int .u8 x69, .int .u8 x71, .int .u8 x73] x97).bind fun x112 =>
 match x112 with
 | none =>
 (mfind (eqT GP 8 52) [.int .u8 x63, .int .u8 x65, .int .u8 x67, .int .u8 x69, .int .u8 x71, .int .u8 x73] x97).bind fun x114 =>
 cond (decide ((((mstamp x97 x114) : Nat) : Int).toNat < (ment x97 x114 [.int .u8 x63, .int .u8 x65, .int .u8 x67, .int .u8 x69, .int .u8 x71, .int .u8 x73] [.int .i64 0]).length)) (
 cond (x108 != x110) (
 (C.s (.func 56) [.ptr 1 0, .agg [.int .u8 x63, .int .u8 x65, .int .u8 x67, .int .u8 x69, .int .u8 x71, .int .u8 x73]] [.map true false 6 (mset (ment x97 x114 [.int .u8 x63, .int .u8 x65, .int .u8 x67, .int .u8 x69, .int .u8 x71, .int .u8 x73] [.int .i64 0]) (((mstamp x97 x114) : Nat) : Int).toNat [.int .i64 (IntKind.wrap .i64 (0 + x108))]), .cells [.int .i64 x101, .int .i64 x103]]).bind fun x115 =>
 (asTuple (x115.1)).bind fun x116 =>
 (isNil x116).bind fun x117 =>
 (unconsO x115.2).bind fun x118 =>
 (asMap true false 6 x118.1).bind fun x119 =>
 (unconsO x118.2).bind fun x120 =>
 (asObCells x120.1).bind fun x121 =>
 (uncons x121).bind fun x122 =>
 (asInt .i64 (x122.1)).bind fun x123 =>
 (uncons x122.2).bind fun x124 =>
 (asInt .i64 (x124.1)).bind fun x125 =>
 (isNil x124.2).bind fun x126 =>
 some (.normal, (S15_7 x19 x20 x23 x25 x31 x33 x35 x37 x39 x41 x43 x75 x76 x77 x78 x79 (IntKind.wrap .i64 (x80 + 1)) x119 x123 x125))) (
 some (.normal, (S15_7 x19 x20 x23 x25 x31 x33 x35 x37 x39 x41 x43 x75 x76 x77 x78 x79 (IntKind.wrap .i64 (x80 + 1)) (mset (ment x97 x114 [.int .u8 x63, .int .u8 x65, .int .u8 x67, .int .u8 x69, .int .u8 x71, .int .u8 x73] [.int .i64 0]) (((mstamp x97 x114) : Nat) : Int).toNat [.int .i64 (IntKind.wrap .i64 (0 + x108))]) x101 x103)))) (
 none)
 | some x113 =>
 (mval x97 x113).bind fun x127 =>
 (uncons x127).bind fun x128 =>
 (asInt .i64 (x128.1)).bind fun x129 =>
 (isNil x128.2).bind fun x130 =>
 (mfind (eqT GP 8 52) [.int .u8 x63, .int .u8 x65, .int .u8 x67, .int .u8 x69, .int .u8 x71, .int .u8 x73] x97).bind fun x131 =>
 cond (decide ((((mstamp x97 x131) : Nat) : Int).toNat < (ment x97 x131 [.int .u8 x63, .int .u8 x65, .int .u8 x67, .int .u8 x69, .int .u8 x71, .int .u8 x73] [.int .i64 0]).length)) (
 cond (x108 != x110) (
 (C.s (.func 56) [.ptr 1 0, .agg [.int .u8 x63, .int .u8 x65, .int .u8 x67, .int .u8 x69, .int .u8 x71, .int .u8 x73]] [.map true false 6 (mset (ment x97 x131 [.int .u8 x63, .int .u8 x65, .int .u8 x67, .int .u8 x69, .int .u8 x71, .int .u8 x73] [.int .i64 0]) (((mstamp x97 x131) : Nat) : Int).toNat [.int .i64 (IntKind.wrap .i64 (x129 + x108))]), .cells [.int .i64 x101, .int .i64 x103]]).bind fun x132 =>
 (asTuple (x132.1)).bind fun x133 =>
 (isNil x133).bind fun x134 =>
 (unconsO x132.2).bind fun x135 =>
 (asMap true false 6 x135.1).bind fun x136 =>
 (unconsO x135.2).bind fun x137 =>
 (asObCells x137.1).bind fun x138 =>
 (uncons x138).bind fun x139 =>
 (asInt .i64 (x139.1)).bind fun x140 =>
 (uncons x139.2).bind fun x141 =>
 (asInt .i64 (x141.1)).bind fun x142 =>
 (isNil x141.2).bind fun x143 =>
 some (.normal, (S15_7 x19 x20 x23 x25 x31 x33 x35 x37 x39 x41 x43 x75 x76 x77 x78 x79 (IntKind.wrap .i64 (x80 + 1)) x136 x140 x142))) (
 some (.normal, (S15_7 x19 x20 x23 x25 x31 x33 x35 x37 x39 x41 x43 x75 x76 x77 x78 x79 (IntKind.wrap .i64 (x80 + 1)) (mset (ment x97 x131 [.int .u8 x63, .int .u8 x65, .int .u8 x67, .int .u8 x69, .int .u8 x71, .int .u8 x73] [.int .i64 0]) (((mstamp x97 x131) : Nat) : Int).toNat [.int .i64 (IntKind.wrap .i64 (x129 + x108))]) x101 x103)))) (
 none)) (
 none)
 | .ret =>
 none) (
 some ((.exit 2), (S15_7 r3 n4 n5 n6 n7 n8 n9 n10 n11 n12 n13 r14 n15 n16 r17 n18 n19 m0 n1 n2))) := by kernel_rfl
theorem e15_4 (C : CallT) (m0 : List (List V × List V)) (n1 : Int) (n2 : Int) (r3 : List (List V)) (n4 : Int) (n5 : Int) (n6 : Int) (r7 : List (List V)) (n8 : Int) (n9 : Int) : roundK GD LD C 15 none 4 (S15_4 r3 n4 n5 n6 r7 n8 n9 m0 n1 n2) =
 cond (decide (n9 < n8)) (
 (getRow r7 n9 7).bind fun x0 =>
 (uncons x0).bind fun x1 =>
 (asInt .i64 (x1.1)).bind fun x2 =>
 (uncons x1.2).bind fun x3 =>
 (asInt .u8 (x3.1)).bind fun x4 =>
 (uncons x3.2).bind fun x5 =>
 (asInt .u8 (x5.1)).bind fun x6 =>
 (uncons x5.2).bind fun x7 =>
 (asInt .u8 (x7.1)).bind fun x8 =>
 (uncons x7.2).bind fun x9 =>
 (asInt .u8 (x9.1)).bind fun x10 =>
 (uncons x9.2).bind fun x11 =>
 (asInt .u8 (x11.1)).bind fun x12 =>
 (uncons x11.2).bind fun x13 =>
 (asInt .u8 (x13.1)).bind fun x14 =>
 (isNil x13.2).bind fun x15 =>
 (C.w (roundK GD LD C 15 none 7) (S15_7 r3 n4 n5 n6 x2 x4 x6 x8 x10 x12 x14 r7 n8 n9 r3 ((r3.length : Nat) : Int) 0 m0 n1 n2)).bind fun x16 =>
 match x16.1 with
 | .normal =>
 none
 | .exit x18 =>
 cond (Nat.beq x18 2) (
 (asRows ((nth x16.2.t 1))).bind fun x19 =>
 (asInt .i64 ((nth x16.2.t 2))).bind fun x20 =>
 (asBox ((nth x16.2.t 7))).bind fun x21 =>
 (uncons x21).bind fun x22 =>
 (asInt .i64 (x22.1)).bind fun x23 =>
 (uncons x22.2).bind fun x24 =>
 (asInt .i64 (x24.1)).bind fun x25 =>
 (isNil x24.2).bind fun x26 =>
 (asMapV 0 ((nth x16.2.t 8))).bind fun x27 =>
 (asPtr 1 0 ((nth x16.2.t 9))).bind fun x28 =>
 (asBox ((nth x16.2.t 11))).bind fun x29 =>
 (uncons x29).bind fun x30 =>
 (asInt .i64 (x30.1)).bind fun x31 =>
 (uncons x30.2).bind fun x32 =>
 (asInt .u8 (x32.1)).bind fun x33 =>
 (uncons x32.2).bind fun x34 =>
 (asInt .u8 (x34.1)).bind fun x35 =>
 (uncons x34.2).bind fun x36 =>
 (asInt .u8 (x36.1)).bind fun x37 =>
 (uncons x36.2).bind fun x38 =>
 (asInt .u8 (x38.1)).bind fun x39 =>
 (uncons x38.2).bind fun x40 =>
 (asInt .u8 (x40.1)).bind fun x41 =>
 (uncons x40.2).bind fun x42 =>
 (asInt .u8 (x42.1)).bind fun x43 =>
 (isNil x42.2).bind fun x44 =>
 (asRows ((nth x16.2.t 23))).bind fun x45 =>
 (asInt .i64 ((nth x16.2.t 24))).bind fun x46 =>
 (asInt .i64 ((nth x16.2.t 25))).bind fun x47 =>
 (asRows ((nth x16.2.t 29))).bind fun x48 =>
 (asInt .i64 ((nth x16.2.t 30))).bind fun x49 =>
 (asInt .i64 ((nth x16.2.t 31))).bind fun x50 =>
 (unconsO x16.2.h).bind fun x51 =>
 (asMap true false 6 x51.1).bind fun x52 =>
 (unconsO x51.2).bind fun x53 =>
 (asObCells x53.1).bind fun x54 =>
 (uncons x54).bind fun x55 =>
 (asInt .i64 (x55.1)).bind fun x56 =>
 (uncons x55.2).bind fun x57 =>
 (asInt .i64 (x57.1)).bind fun x58 =>
 (isNil x57.2).bind fun x59 =>
 some (.normal, (S15_4 x19 x20 x23 x25 x45 x46 (IntKind.wrap .i64 (x47 + 1)) x52 x56 x58))) (
 none)
 | .ret =>
 none) (
 some ((.exit 0), (S15_4 r3 n4 n5 n6 r7 n8 n9 m0 n1 n2))) := by kernel_rfl
theorem e15 (C : CallT) (r0 : List (List V)) (r1 : List (List V)) (n2 : Int) : run1 GD LD C (.func 15) [.slice .any r0, .slice .any r1, .int .i64 n2] [] =
 (C.w (roundK GD LD C 15 none 4) (S15_4 r1 n2 0 0 r0 ((r0.length : Nat) : Int) 0 [] 0 0)).bind fun x0 =>
 match x0.1 with
 | .normal =>
 none
 | .exit x2 =>
 cond (Nat.beq x2 0) (
 (asRows ((nth x0.2.t 1))).bind fun x3 =>
 (asInt .i64 ((nth x0.2.t 2))).bind fun x4 =>
 (asBox ((nth x0.2.t 7))).bind fun x5 =>
 (uncons x5).bind fun x6 =>
 (asInt .i64 (x6.1)).bind fun x7 =>
 (uncons x6.2).bind fun x8 =>
 (asInt .i64 (x8.1)).bind fun x9 =>
 (isNil x8.2).bind fun x10 =>
 (asMapV 0 ((nth x0.2.t 8))).bind fun x11 =>
 (asPtr 1 0 ((nth x0.2.t 9))).bind fun x12 =>
 (asRows ((nth x0.2.t 23))).bind fun x13 =>
 (asInt .i64 ((nth x0.2.t 24))).bind fun x14 =>
 (asInt .i64 ((nth x0.2.t 25))).bind fun x15 =>
 (unconsO x0.2.h).bind fun x16 =>
 (asMap true false 6 x16.1).bind fun x17 =>
 (unconsO x16.2).bind fun x18 =>
 (asObCells x18.1).bind fun x19 =>
 (uncons x19).bind fun x20 =>
 (asInt .i64 (x20.1)).bind fun x21 =>
 (uncons x20.2).bind fun x22 =>
 (asInt .i64 (x22.1)).bind fun x23 =>
 (isNil x22.2).bind fun x24 =>
 (C.s (.func 58) [.map 0] [.map true false 6 x17, .cells [.int .i64 x21, .int .i64 x23], .arr true 7 []]).bind fun x25 =>
 (asFn (.func 77) (x25.1)).bind fun x26 =>
 (isNil x26.1).bind fun x27 =>
 (uncons x26.2).bind fun x28 =>
 (asPtr 3 0 (x28.1)).bind fun x29 =>
 (isNil x28.2).bind fun x30 =>
 (unconsO x25.2).bind fun x31 =>
 (asMap true false 6 x31.1).bind fun x32 =>
 (unconsO x31.2).bind fun x33 =>
 (asObCells x33.1).bind fun x34 =>
 (uncons x34).bind fun x35 =>
 (asInt .i64 (x35.1)).bind fun x36 =>
 (uncons x35.2).bind fun x37 =>
 (asInt .i64 (x37.1)).bind fun x38 =>
 (isNil x37.2).bind fun x39 =>
 (unconsO x33.2).bind fun x40 =>
 (asObArr true 7 x40.1).bind fun x41 =>
 (unconsO x40.2).bind fun x42 =>
 (asObCells x42.1).bind fun x43 =>
 (uncons x43).bind fun x44 =>
 (asMapV 0 (x44.1)).bind fun x45 =>
 (isNil x44.2).bind fun x46 =>
 (C.s (.func 57) [.fn (.func 77) [] [.ptr 3 0], .fn (.func 45) [] []] [.map true false 6 x32, .cells [.int .i64 x36, .int .i64 x38], .arr true 7 x41, .cells [.map 0]]).bind fun x47 =>
 (asRows (x47.1)).bind fun x48 =>
 (unconsO x47.2).bind fun x49 =>
 (asMap true false 6 x49.1).bind fun x50 =>
 (unconsO x49.2).bind fun x51 =>
 (asObCells x51.1).bind fun x52 =>
 (uncons x52).bind fun x53 =>
 (asInt .i64 (x53.1)).bind fun x54 =>
 (uncons x53.2).bind fun x55 =>
 (asInt .i64 (x55.1)).bind fun x56 =>
 (isNil x55.2).bind fun x57 =>
 (unconsO x51.2).bind fun x58 =>
 (asObArr true 7 x58.1).bind fun x59 =>
 (unconsO x58.2).bind fun x60 =>
 (asObCells x60.1).bind fun x61 =>
 (uncons x61).bind fun x62 =>
 (asMapV 0 (x62.1)).bind fun x63 =>
 (isNil x62.2).bind fun x64 =>
 (C.w (roundK GD LD C 15 none 23) (S15_23 x4 x7 x9 0 x48 ((x48.length : Nat) : Int) 0 x50 x54 x56 x59)).bind fun x65 =>
 match x65.1 with
 | .normal =>
 none
 | .exit x67 =>
 cond (Nat.beq x67 6) (
 (asInt .i64 ((nth x65.2.t 2))).bind fun x68 =>
 (asBox ((nth x65.2.t 7))).bind fun x69 =>
 (uncons x69).bind fun x70 =>
 (asInt .i64 (x70.1)).bind fun x71 =>
 (uncons x70.2).bind fun x72 =>
 (asInt .i64 (x72.1)).bind fun x73 =>
 (isNil x72.2).bind fun x74 =>
 (asMapV 0 ((nth x65.2.t 8))).bind fun x75 =>
 (asPtr 1 0 ((nth x65.2.t 9))).bind fun x76 =>
 (asArr 2 7 ((nth x65.2.t 19))).bind fun x77 =>
 (asRows ((nth x65.2.t 74))).bind fun x78 =>
 (asInt .i64 ((nth x65.2.t 75))).bind fun x79 =>
 (asInt .i64 ((nth x65.2.t 76))).bind fun x80 =>
 (unconsO x65.2.h).bind fun x81 =>
 (asMap true false 6 x81.1).bind fun x82 =>
 (unconsO x81.2).bind fun x83 =>
 (asObCells x83.1).bind fun x84 =>
 (uncons x84).bind fun x85 =>
 (asInt .i64 (x85.1)).bind fun x86 =>
 (uncons x85.2).bind fun x87 =>
 (asInt .i64 (x87.1)).bind fun x88 =>
 (isNil x87.2).bind fun x89 =>
 (unconsO x83.2).bind fun x90 =>
 (asObArr true 7 x90.1).bind fun x91 =>
 (unconsO x90.2).bind fun x92 =>
 (asObCells x92.1).bind fun x93 =>
 (uncons x93).bind fun x94 =>
 (asMapV 0 (x94.1)).bind fun x95 =>
 (isNil x94.2).bind fun x96 =>
 (arrRows [.map true false 6 x82, .cells [.int .i64 x86, .int .i64 x88], .arr true 7 x91, .cells [.map 0]] 2 x77).bind fun x97 =>
 (C.p (.func 52) [.slice .any x97, .int .i64 x68, .agg [.int .i64 x86, .int .i64 x88]]).bind fun x98 =>
 (asTuple (x98)).bind fun x99 =>
 (uncons x99).bind fun x100 =>
 (asRows (x100.1)).bind fun x101 =>
 (uncons x100.2).bind fun x102 =>
 (asCells (x102.1)).bind fun x103 =>
 (uncons x103).bind fun x104 =>
 (asInt .i64 (x104.1)).bind fun x105 =>
 (uncons x104.2).bind fun x106 =>
 (asInt .i64 (x106.1)).bind fun x107 =>
 (isNil x106.2).bind fun x108 =>
 (isNil x102.2).bind fun x109 =>
 some (.tuple [.slice .any x101, .agg [.int .i64 x105, .int .i64 x107]], [.map true false 6 x82, .cells [.int .i64 x86, .int .i64 x88], .arr false 7 x91, .cells [.map 0]])) (
 none)
 | .ret =>
 none) (
 none)
 | .ret =>
 none := by kernel_rfl
def S17_4 (p0 : Int) (p1 : Int) (p2 : Int) (p3 : Nat) (p4 : List (List V)) (p5 : Int) (p6 : Int) (p7 : List (List V)) (p8 : Int) (p9 : Int) : St := ⟨(sp 0 44 [(1, .int .i64 p0), (5, .box [.int .i64 p1, .int .i64 p2]), (6, .arr 0 p3 7), (7, .ptr 1 0), (12, .slice .any p4), (13, .int .i64 p5), (14, .int .i64 p6)]), [.arr true 7 p7, .cells [.int .i64 p8, .int .i64 p9]]⟩
theorem s56_in17 (C : CallT) (r0 : List (List V)) (n1 : Int) (n2 : Int) (n3 : Int) (n4 : Int) (n5 : Int) (n6 : Int) (n7 : Int) (n8 : Int) : run1 GD LD C (.func 56) [.ptr 1 0, .agg [.int .u8 n3, .int .u8 n4, .int .u8 n5, .int .u8 n6, .int .u8 n7, .int .u8 n8]] [.arr true 7 r0, .cells [.int .i64 n1, .int .i64 n2]] =
 (C.p (.func 74) [.agg [.int .u8 n3, .int .u8 n4, .int .u8 n5, .int .u8 n6, .int .u8 n7, .int .u8 n8]]).bind fun x0 =>
 (asBool (x0)).bind fun x1 =>
 cond x1 (
 some (.tuple [], [.arr true 7 r0, .cells [.int .i64 (IntKind.wrap .i64 (n1 - 1)), .int .i64 (IntKind.wrap .i64 (n2 + 1))]])) (
 some (.tuple [], [.arr true 7 r0, .cells [.int .i64 n1, .int .i64 (IntKind.wrap .i64 (n2 + 1))]])) := by kernel_rfl
theorem e17_4 (C : CallT) (r0 : List (List V)) (n1 : Int) (n2 : Int) (n3 : Int) (n4 : Int) (n5 : Int) (r6 : List (List V)) (n7 : Int) (n8 : Int) : roundK GD LD C 17 none 4 (S17_4 n3 n4 n5 r0.length r6 n7 n8 r0 n1 n2) =
 cond (decide (n8 < n7)) (
 (getRow r6 n8 7).bind fun x0 =>
 (uncons x0).bind fun x1 =>
 (asInt .i64 (x1.1)).bind fun x2 =>
 (uncons x1.2).bind fun x3 =>
 (asInt .u8 (x3.1)).bind fun x4 =>
 (uncons x3.2).bind fun x5 =>
 (asInt .u8 (x5.1)).bind fun x6 =>
 (uncons x5.2).bind fun x7 =>
 (asInt .u8 (x7.1)).bind fun x8 =>
 (uncons x7.2).bind fun x9 =>
 (asInt .u8 (x9.1)).bind fun x10 =>
 (uncons x9.2).bind fun x11 =>
 (asInt .u8 (x11.1)).bind fun x12 =>
 (uncons x11.2).bind fun x13 =>
 (asInt .u8 (x13.1)).bind fun x14 =>
 (isNil x13.2).bind fun x15 =>
 (C.p (.func 55) [.int .i64 x2, .int .i64 n3]).bind fun x16 =>
 (asTuple (x16)).bind fun x17 =>
 (uncons x17).bind fun x18 =>
 (asInt .i64 (x18.1)).bind fun x19 =>
 (uncons x18.2).bind fun x20 =>
 (asInt .i64 (x20.1)).bind fun x21 =>
 (isNil x20.2).bind fun x22 =>
 cond (x19 != x21) (
 (C.s (.func 56) [.ptr 1 0, .agg [.int .u8 x4, .int .u8 x6, .int .u8 x8, .int .u8 x10, .int .u8 x12, .int .u8 x14]] [.arr true 7 r0, .cells [.int .i64 n1, .int .i64 n2]]).bind fun x23 =>
 (asTuple (x23.1)).bind fun x24 =>
 (isNil x24).bind fun x25 =>
 (unconsO x23.2).bind fun x26 =>
 (asObArr true 7 x26.1).bind fun x27 =>
 (unconsO x26.2).bind fun x28 =>
 (asObCells x28.1).bind fun x29 =>
 (uncons x29).bind fun x30 =>
 (asInt .i64 (x30.1)).bind fun x31 =>
 (uncons x30.2).bind fun x32 =>
 (asInt .i64 (x32.1)).bind fun x33 =>
 (isNil x32.2).bind fun x34 =>
 cond (decide (r0.length = x27.length)) (
 cond (decide (((x27.length + 1) * 16) ≤ room)) (
 some (.normal, (S17_4 n3 n4 n5 (r0.length + 1) r6 n7 (IntKind.wrap .i64 (n8 + 1)) (List.append x27 [[.int .i64 x19, .int .u8 x4, .int .u8 x6, .int .u8 x8, .int .u8 x10, .int .u8 x12, .int .u8 x14]]) x31 x33))) (
 none)) (
 none)) (
 cond (decide (r0.length = r0.length)) (
 cond (decide (((r0.length + 1) * 16) ≤ room)) (
 some (.normal, (S17_4 n3 n4 n5 (r0.length + 1) r6 n7 (IntKind.wrap .i64 (n8 + 1)) (List.append r0 [[.int .i64 x19, .int .u8 x4, .int .u8 x6, .int .u8 x8, .int .u8 x10, .int .u8 x12, .int .u8 x14]]) n1 n2))) (
 none)) (
 none))) (
 some ((.exit 0), (S17_4 n3 n4 n5 r0.length r6 n7 n8 r0 n1 n2))) := by kernel_rfl
theorem e17 (C : CallT) (r0 : List (List V)) (n1 : Int) : run1 GD LD C (.func 17) [.slice .any r0, .int .i64 n1] [] =
 (C.w (roundK GD LD C 17 none 4) (S17_4 n1 0 0 0 r0 ((r0.length : Nat) : Int) 0 [] 0 0)).bind fun x0 =>
 match x0.1 with
 | .normal =>
 none
 | .exit x2 =>
 cond (Nat.beq x2 0) (
 (asInt .i64 ((nth x0.2.t 1))).bind fun x3 =>
 (asBox ((nth x0.2.t 5))).bind fun x4 =>
 (uncons x4).bind fun x5 =>
 (asInt .i64 (x5.1)).bind fun x6 =>
 (uncons x5.2).bind fun x7 =>
 (asInt .i64 (x7.1)).bind fun x8 =>
 (isNil x7.2).bind fun x9 =>
 (asArr 0 7 ((nth x0.2.t 6))).bind fun x10 =>
 (asPtr 1 0 ((nth x0.2.t 7))).bind fun x11 =>
 (asRows ((nth x0.2.t 12))).bind fun x12 =>
 (asInt .i64 ((nth x0.2.t 13))).bind fun x13 =>
 (asInt .i64 ((nth x0.2.t 14))).bind fun x14 =>
 (unconsO x0.2.h).bind fun x15 =>
 (asObArr true 7 x15.1).bind fun x16 =>
 (unconsO x15.2).bind fun x17 =>
 (asObCells x17.1).bind fun x18 =>
 (uncons x18).bind fun x19 =>
 (asInt .i64 (x19.1)).bind fun x20 =>
 (uncons x19.2).bind fun x21 =>
 (asInt .i64 (x21.1)).bind fun x22 =>
 (isNil x21.2).bind fun x23 =>
 (arrRows [.arr true 7 x16, .cells [.int .i64 x20, .int .i64 x22]] 0 x10).bind fun x24 =>
 (C.p (.func 52) [.slice .any x24, .int .i64 6, .agg [.int .i64 x20, .int .i64 x22]]).bind fun x25 =>
 (asTuple (x25)).bind fun x26 =>
 (uncons x26).bind fun x27 =>
 (asRows (x27.1)).bind fun x28 =>
 (uncons x27.2).bind fun x29 =>
 (asCells (x29.1)).bind fun x30 =>
 (uncons x30).bind fun x31 =>
 (asInt .i64 (x31.1)).bind fun x32 =>
 (uncons x31.2).bind fun x33 =>
 (asInt .i64 (x33.1)).bind fun x34 =>
 (isNil x33.2).bind fun x35 =>
 (isNil x29.2).bind fun x36 =>
 some (.tuple [.slice .any x28, .agg [.int .i64 x32, .int .i64 x34]], [.arr false 7 x16, .cells [.int .i64 x20, .int .i64 x22]])) (
 none)
 | .ret =>
 none := by kernel_rfl
theorem e19 (C : CallT) (r0 : List (List V)) (n1 : Int) : run1 GD LD C (.func 19) [.slice .any r0, .int .i64 n1] [] =
 (C.p (.func 52) [.slice .any r0, .int .i64 n1, .agg [.int .i64 0, .int .i64 0]]).bind fun x0 =>
 (asTuple (x0)).bind fun x1 =>
 (uncons x1).bind fun x2 =>
 (asRows (x2.1)).bind fun x3 =>
 (uncons x2.2).bind fun x4 =>
 (asCells (x4.1)).bind fun x5 =>
 (uncons x5).bind fun x6 =>
 (asInt .i64 (x6.1)).bind fun x7 =>
 (uncons x6.2).bind fun x8 =>
 (asInt .i64 (x8.1)).bind fun x9 =>
 (isNil x8.2).bind fun x10 =>
 (isNil x4.2).bind fun x11 =>
 some (.tuple [.slice .any x3, .agg [.int .i64 x7, .int .i64 x9]], []) := by kernel_rfl
def S23_3 (p0 : Int) (p1 : Int) (p2 : List (List V)) (p3 : Int) (p4 : Int) (p5 : Int) (p6 : Int) : St := ⟨(sp 0 23 [(2, .box [.int .i64 p0, .int .i64 p1]), (3, .ptr 0 0), (6, .slice .any p2), (7, .int .i64 p3), (8, .int .i64 p4)]), [.cells [.int .i64 p5, .int .i64 p6]]⟩
theorem s61_in23 (C : CallT) (n0 : Int) (n1 : Int) (n2 : Int) (n3 : Int) (n4 : Int) (n5 : Int) (n6 : Int) (n7 : Int) (n8 : Int) : run1 GD LD C (.func 61) [.ptr 0 0, .int .i64 n2, .agg [.int .u8 n3, .int .u8 n4, .int .u8 n5, .int .u8 n6, .int .u8 n7, .int .u8 n8]] [.cells [.int .i64 n0, .int .i64 n1]] =
 cond ((n3 == 0) && ((n4 == 0) && ((n5 == 0) && ((n6 == 0) && ((n7 == 0) && ((n8 == 0) && true)))))) (
 some (.tuple [], [.cells [.int .i64 (IntKind.wrap .i64 (n0 + n2)), .int .i64 (IntKind.wrap .i64 (n1 + n2))]])) (
 (C.p (.func 74) [.agg [.int .u8 n3, .int .u8 n4, .int .u8 n5, .int .u8 n6, .int .u8 n7, .int .u8 n8]]).bind fun x0 =>
 (asBool (x0)).bind fun x1 =>
 cond x1 (
 some (.tuple [], [.cells [.int .i64 (IntKind.wrap .i64 (n0 - (if (IntKind.wrap .i64 (0 - n2)) > n2 then (IntKind.wrap .i64 (0 - n2)) else n2))), .int .i64 (IntKind.wrap .i64 (n1 + (if (IntKind.wrap .i64 (0 - n2)) > n2 then (IntKind.wrap .i64 (0 - n2)) else n2)))]])) (
 some (.tuple [], [.cells [.int .i64 (IntKind.wrap .i64 (n0 + (if 0 < n2 then 0 else n2))), .int .i64 (IntKind.wrap .i64 (n1 + (if 0 > n2 then 0 else n2)))]]))) := by kernel_rfl
theorem e23_3 (C : CallT) (n0 : Int) (n1 : Int) (n2 : Int) (n3 : Int) (r4 : List (List V)) (n5 : Int) (n6 : Int) : roundK GD LD C 23 none 3 (S23_3 n2 n3 r4 n5 n6 n0 n1) =
 cond (decide (n6 < n5)) (
 (getRow r4 n6 7).bind fun x0 =>
 (uncons x0).bind fun x1 =>
 (asInt .i64 (x1.1)).bind fun x2 =>
 (uncons x1.2).bind fun x3 =>
 (asInt .u8 (x3.1)).bind fun x4 =>
 (uncons x3.2).bind fun x5 =>
 (asInt .u8 (x5.1)).bind fun x6 =>
 (uncons x5.2).bind fun x7 =>
 (asInt .u8 (x7.1)).bind fun x8 =>
 (uncons x7.2).bind fun x9 =>
 (asInt .u8 (x9.1)).bind fun x10 =>
 (uncons x9.2).bind fun x11 =>
 (asInt .u8 (x11.1)).bind fun x12 =>
 (uncons x11.2).bind fun x13 =>
 (asInt .u8 (x13.1)).bind fun x14 =>
 (isNil x13.2).bind fun x15 =>
 (C.s (.func 61) [.ptr 0 0, .int .i64 x2, .agg [.int .u8 x4, .int .u8 x6, .int .u8 x8, .int .u8 x10, .int .u8 x12, .int .u8 x14]] [.cells [.int .i64 n0, .int .i64 n1]]).bind fun x16 =>
 (asTuple (x16.1)).bind fun x17 =>
 (isNil x17).bind fun x18 =>
 (unconsO x16.2).bind fun x19 =>
 (asObCells x19.1).bind fun x20 =>
 (uncons x20).bind fun x21 =>
 (asInt .i64 (x21.1)).bind fun x22 =>
 (uncons x21.2).bind fun x23 =>
 (asInt .i64 (x23.1)).bind fun x24 =>
 (isNil x23.2).bind fun x25 =>
 some (.normal, (S23_3 n2 n3 r4 n5 (IntKind.wrap .i64 (n6 + 1)) x22 x24))) (
 some ((.exit 0), (S23_3 n2 n3 r4 n5 n6 n0 n1))) := by kernel_rfl
theorem e23 (C : CallT) (r0 : List (List V)) : run1 GD LD C (.func 23) [.slice .any r0] [] =
 (C.w (roundK GD LD C 23 none 3) (S23_3 0 0 r0 ((r0.length : Nat) : Int) 0 0 0)).bind fun x0 =>
 match x0.1 with
 | .normal =>
 none
 | .exit x2 =>
 cond (Nat.beq x2 0) (
 (asBox ((nth x0.2.t 2))).bind fun x3 =>
 (uncons x3).bind fun x4 =>
 (asInt .i64 (x4.1)).bind fun x5 =>
 (uncons x4.2).bind fun x6 =>
 (asInt .i64 (x6.1)).bind fun x7 =>
 (isNil x6.2).bind fun x8 =>
 (asPtr 0 0 ((nth x0.2.t 3))).bind fun x9 =>
 (asRows ((nth x0.2.t 6))).bind fun x10 =>
 (asInt .i64 ((nth x0.2.t 7))).bind fun x11 =>
 (asInt .i64 ((nth x0.2.t 8))).bind fun x12 =>
 (unconsO x0.2.h).bind fun x13 =>
 (asObCells x13.1).bind fun x14 =>
 (uncons x14).bind fun x15 =>
 (asInt .i64 (x15.1)).bind fun x16 =>
 (uncons x15.2).bind fun x17 =>
 (asInt .i64 (x17.1)).bind fun x18 =>
 (isNil x17.2).bind fun x19 =>
 (C.p (.func 62) [.int .i64 x16, .int .i64 x18]).bind fun x20 =>
 (asCells (x20)).bind fun x21 =>
 (uncons x21).bind fun x22 =>
 (asInt .i64 (x22.1)).bind fun x23 =>
 (uncons x22.2).bind fun x24 =>
 (asInt .i64 (x24.1)).bind fun x25 =>
 (isNil x24.2).bind fun x26 =>
 some (.agg [.int .i64 x23, .int .i64 x25], [.cells [.int .i64 x16, .int .i64 x18]])) (
 none)
 | .ret =>
 none := by kernel_rfl
def S25_4 (p0 : Int) (p1 : Int) (p2 : Int) (p3 : Int) (p4 : List (List V)) (p5 : Int) (p6 : Int) (p7 : List (List V)) (p8 : List (List V × List V)) : St := ⟨(sp 0 45 [(4, .box [.int .i64 p0, .int .i64 p1]), (5, .fn (.func 78) [] [.ptr 2 0, .ptr 0 0, .ptr 3 0]), (6, .box [.int .i64 p2, .int .i64 p3]), (15, .slice .any p4), (16, .int .i64 p5), (17, .int .i64 p6)]), [.cells [.slice .any p7], .map true true 2 p8, .cells [.map 1], .cells [.fn (.func 78) [] [.ptr 2 0, .ptr 0 0, .ptr 3 0]]]⟩
def S25_8 (p0 : Int) (p1 : Int) (p2 : Int) (p3 : Int) (p4 : Int) (p5 : Int) (p6 : List (List V)) (p7 : Int) (p8 : Int) (p9 : Int) (p10 : Int) (p11 : Int) (p12 : Int) (p13 : Int) (p14 : Int) (p15 : Int) (p16 : List (List V)) (p17 : List (List V × List V)) : St := ⟨(sp 0 45 [(4, .box [.int .i64 p0, .int .i64 p1]), (5, .fn (.func 78) [] [.ptr 2 0, .ptr 0 0, .ptr 3 0]), (6, .box [.int .i64 p2, .int .i64 p3]), (9, .box [.int .i64 p4, .int .i64 p5]), (15, .slice .any p6), (16, .int .i64 p7), (17, .int .i64 p8), (25, .agg [.int .u8 p9, .int .u8 p10, .int .u8 p11, .int .u8 p12, .int .u8 p13, .int .u8 p14]), (26, .int .i64 p15)]), [.cells [.slice .any p16], .map true true 2 p17, .cells [.map 1], .cells [.fn (.func 78) [] [.ptr 2 0, .ptr 0 0, .ptr 3 0]]]⟩
theorem s78_in25 (C : CallT) (r0 : List (List V)) (m1 : List (List V × List V)) (n2 : Int) (n3 : Int) : run1 GD LD C (.func 78) [.int .i64 n2, .int .i64 n3, .ptr 2 0, .ptr 0 0, .ptr 3 0] [.cells [.slice .any r0], .map true true 2 m1, .cells [.map 1], .cells [.fn (.func 78) [] [.ptr 2 0, .ptr 0 0, .ptr 3 0]]] =
 (mfind (eqT GP 8 100) [.int .i64 n2, .int .i64 n3] m1).bind fun x0 =>
 match x0 with
 | none =>
 cond (n3 == 1) (
 cond (decide (n2 < ((r0.length : Nat) : Int))) (
 (getRow r0 n2 2).bind fun x228 =>
 (uncons x228).bind fun x229 =>
 (asInt .i64 (x229.1)).bind fun x230 =>
 (uncons x229.2).bind fun x231 =>
 (asInt .i64 (x231.1)).bind fun x232 =>
 (isNil x231.2).bind fun x233 =>
 (mfind (eqT GP 8 100) [.int .i64 n2, .int .i64 n3] m1).bind fun x234 =>
 some (.agg [.int .i64 x230, .int .i64 x232], [.cells [.slice .any r0], .map true true 2 (mput m1 x234 [.int .i64 n2, .int .i64 n3] [.int .i64 x230, .int .i64 x232]), .cells [.map 1], .cells [.fn (.func 78) [] [.ptr 2 0, .ptr 0 0, .ptr 3 0]]])) (
 cond (n3 == 1) (
 (mfind (eqT GP 8 100) [.int .i64 n2, .int .i64 n3] m1).bind fun x227 =>
 some (.agg [.int .i64 (-65536), .int .i64 65536], [.cells [.slice .any r0], .map true true 2 (mput m1 x227 [.int .i64 n2, .int .i64 n3] [.int .i64 (-65536), .int .i64 65536]), .cells [.map 1], .cells [.fn (.func 78) [] [.ptr 2 0, .ptr 0 0, .ptr 3 0]]])) (
 cond ((Int.tmod n3 2) == 0) (
 (C.s (.func 78) [.int .i64 n2, .int .i64 (IntKind.wrap .i64 (Int.tdiv n3 2)), .ptr 2 0, .ptr 0 0, .ptr 3 0] [.cells [.slice .any r0], .map true true 2 m1, .cells [.map 1], .cells [.fn (.func 78) [] [.ptr 2 0, .ptr 0 0, .ptr 3 0]]]).bind fun x187 =>
 (asCells (x187.1)).bind fun x188 =>
 (uncons x188).bind fun x189 =>
 (asInt .i64 (x189.1)).bind fun x190 =>
 (uncons x189.2).bind fun x191 =>
 (asInt .i64 (x191.1)).bind fun x192 =>
 (isNil x191.2).bind fun x193 =>
 (unconsO x187.2).bind fun x194 =>
 (asObCells x194.1).bind fun x195 =>
 (uncons x195).bind fun x196 =>
 (asRows (x196.1)).bind fun x197 =>
 (isNil x196.2).bind fun x198 =>
 (unconsO x194.2).bind fun x199 =>
 (asMap true true 2 x199.1).bind fun x200 =>
 (unconsO x199.2).bind fun x201 =>
 (asObCells x201.1).bind fun x202 =>
 (uncons x202).bind fun x203 =>
 (asMapV 1 (x203.1)).bind fun x204 =>
 (isNil x203.2).bind fun x205 =>
 (unconsO x201.2).bind fun x206 =>
 (asObCells x206.1).bind fun x207 =>
 (uncons x207).bind fun x208 =>
 (asFn (.func 78) (x208.1)).bind fun x209 =>
 (isNil x209.1).bind fun x210 =>
 (uncons x209.2).bind fun x211 =>
 (asPtr 2 0 (x211.1)).bind fun x212 =>
 (uncons x211.2).bind fun x213 =>
 (asPtr 0 0 (x213.1)).bind fun x214 =>
 (uncons x213.2).bind fun x215 =>
 (asPtr 3 0 (x215.1)).bind fun x216 =>
 (isNil x215.2).bind fun x217 =>
 (isNil x208.2).bind fun x218 =>
 (C.p (.func 79) [.agg [.int .i64 x190, .int .i64 x192]]).bind fun x219 =>
 (asCells (x219)).bind fun x220 =>
 (uncons x220).bind fun x221 =>
 (asInt .i64 (x221.1)).bind fun x222 =>
 (uncons x221.2).bind fun x223 =>
 (asInt .i64 (x223.1)).bind fun x224 =>
 (isNil x223.2).bind fun x225 =>
 (mfind (eqT GP 8 100) [.int .i64 n2, .int .i64 n3] x200).bind fun x226 =>
 some (.agg [.int .i64 x222, .int .i64 x224], [.cells [.slice .any x197], .map true true 2 (mput x200 x226 [.int .i64 n2, .int .i64 n3] [.int .i64 x222, .int .i64 x224]), .cells [.map 1], .cells [.fn (.func 78) [] [.ptr 2 0, .ptr 0 0, .ptr 3 0]]])) (
 (C.s (.func 78) [.int .i64 n2, .int .i64 (IntKind.wrap .i64 (n3 - 1)), .ptr 2 0, .ptr 0 0, .ptr 3 0] [.cells [.slice .any r0], .map true true 2 m1, .cells [.map 1], .cells [.fn (.func 78) [] [.ptr 2 0, .ptr 0 0, .ptr 3 0]]]).bind fun x115 =>
 (asCells (x115.1)).bind fun x116 =>
 (uncons x116).bind fun x117 =>
 (asInt .i64 (x117.1)).bind fun x118 =>
 (uncons x117.2).bind fun x119 =>
 (asInt .i64 (x119.1)).bind fun x120 =>
 (isNil x119.2).bind fun x121 =>
 (unconsO x115.2).bind fun x122 =>
 (asObCells x122.1).bind fun x123 =>
 (uncons x123).bind fun x124 =>
 (asRows (x124.1)).bind fun x125 =>
 (isNil x124.2).bind fun x126 =>
 (unconsO x122.2).bind fun x127 =>
 (asMap true true 2 x127.1).bind fun x128 =>
 (unconsO x127.2).bind fun x129 =>
 (asObCells x129.1).bind fun x130 =>
 (uncons x130).bind fun x131 =>
 (asMapV 1 (x131.1)).bind fun x132 =>
 (isNil x131.2).bind fun x133 =>
 (unconsO x129.2).bind fun x134 =>
 (asObCells x134.1).bind fun x135 =>
 (uncons x135).bind fun x136 =>
 (asFn (.func 78) (x136.1)).bind fun x137 =>
 (isNil x137.1).bind fun x138 =>
 (uncons x137.2).bind fun x139 =>
 (asPtr 2 0 (x139.1)).bind fun x140 =>
 (uncons x139.2).bind fun x141 =>
 (asPtr 0 0 (x141.1)).bind fun x142 =>
 (uncons x141.2).bind fun x143 =>
 (asPtr 3 0 (x143.1)).bind fun x144 =>
 (isNil x143.2).bind fun x145 =>
 (isNil x136.2).bind fun x146 =>
 (C.s (.func 78) [.int .i64 n2, .int .i64 1, .ptr 2 0, .ptr 0 0, .ptr 3 0] [.cells [.slice .any x125], .map true true 2 x128, .cells [.map 1], .cells [.fn (.func 78) [] [.ptr 2 0, .ptr 0 0, .ptr 3 0]]]).bind fun x147 =>
 (asCells (x147.1)).bind fun x148 =>
 (uncons x148).bind fun x149 =>
 (asInt .i64 (x149.1)).bind fun x150 =>
 (uncons x149.2).bind fun x151 =>
 (asInt .i64 (x151.1)).bind fun x152 =>
 (isNil x151.2).bind fun x153 =>
 (unconsO x147.2).bind fun x154 =>
 (asObCells x154.1).bind fun x155 =>
 (uncons x155).bind fun x156 =>
 (asRows (x156.1)).bind fun x157 =>
 (isNil x156.2).bind fun x158 =>
 (unconsO x154.2).bind fun x159 =>
 (asMap true true 2 x159.1).bind fun x160 =>
 (unconsO x159.2).bind fun x161 =>
 (asObCells x161.1).bind fun x162 =>
 (uncons x162).bind fun x163 =>
 (asMapV 1 (x163.1)).bind fun x164 =>
 (isNil x163.2).bind fun x165 =>
 (unconsO x161.2).bind fun x166 =>
 (asObCells x166.1).bind fun x167 =>
 (uncons x167).bind fun x168 =>
 (asFn (.func 78) (x168.1)).bind fun x169 =>
 (isNil x169.1).bind fun x170 =>
 (uncons x169.2).bind fun x171 =>
 (asPtr 2 0 (x171.1)).bind fun x172 =>
 (uncons x171.2).bind fun x173 =>
 (asPtr 0 0 (x173.1)).bind fun x174 =>
 (uncons x173.2).bind fun x175 =>
 (asPtr 3 0 (x175.1)).bind fun x176 =>
 (isNil x175.2).bind fun x177 =>
 (isNil x168.2).bind fun x178 =>
 (C.p (.func 65) [.agg [.int .i64 x118, .int .i64 x120], .agg [.int .i64 x150, .int .i64 x152]]).bind fun x179 =>
 (asCells (x179)).bind fun x180 =>
 (uncons x180).bind fun x181 =>
 (asInt .i64 (x181.1)).bind fun x182 =>
 (uncons x181.2).bind fun x183 =>
 (asInt .i64 (x183.1)).bind fun x184 =>
 (isNil x183.2).bind fun x185 =>
 (mfind (eqT GP 8 100) [.int .i64 n2, .int .i64 n3] x160).bind fun x186 =>
 some (.agg [.int .i64 x182, .int .i64 x184], [.cells [.slice .any x157], .map true true 2 (mput x160 x186 [.int .i64 n2, .int .i64 n3] [.int .i64 x182, .int .i64 x184]), .cells [.map 1], .cells [.fn (.func 78) [] [.ptr 2 0, .ptr 0 0, .ptr 3 0]]]))))) (
 cond (n3 == 1) (
 (mfind (eqT GP 8 100) [.int .i64 n2, .int .i64 n3] m1).bind fun x114 =>
 some (.agg [.int .i64 (-65536), .int .i64 65536], [.cells [.slice .any r0], .map true true 2 (mput m1 x114 [.int .i64 n2, .int .i64 n3] [.int .i64 (-65536), .int .i64 65536]), .cells [.map 1], .cells [.fn (.func 78) [] [.ptr 2 0, .ptr 0 0, .ptr 3 0]]])) (
 cond ((Int.tmod n3 2) == 0) (
 (C.s (.func 78) [.int .i64 n2, .int .i64 (IntKind.wrap .i64 (Int.tdiv n3 2)), .ptr 2 0, .ptr 0 0, .ptr 3 0] [.cells [.slice .any r0], .map true true 2 m1, .cells [.map 1], .cells [.fn (.func 78) [] [.ptr 2 0, .ptr 0 0, .ptr 3 0]]]).bind fun x74 =>
 (asCells (x74.1)).bind fun x75 =>
 (uncons x75).bind fun x76 =>
 (asInt .i64 (x76.1)).bind fun x77 =>
 (uncons x76.2).bind fun x78 =>
 (asInt .i64 (x78.1)).bind fun x79 =>
 (isNil x78.2).bind fun x80 =>
 (unconsO x74.2).bind fun x81 =>
 (asObCells x81.1).bind fun x82 =>
 (uncons x82).bind fun x83 =>
 (asRows (x83.1)).bind fun x84 =>
 (isNil x83.2).bind fun x85 =>
 (unconsO x81.2).bind fun x86 =>
 (asMap true true 2 x86.1).bind fun x87 =>
 (unconsO x86.2).bind fun x88 =>
 (asObCells x88.1).bind fun x89 =>
 (uncons x89).bind fun x90 =>
 (asMapV 1 (x90.1)).bind fun x91 =>
 (isNil x90.2).bind fun x92 =>
 (unconsO x88.2).bind fun x93 =>
 (asObCells x93.1).bind fun x94 =>
 (uncons x94).bind fun x95 =>
 (asFn (.func 78) (x95.1)).bind fun x96 =>
 (isNil x96.1).bind fun x97 =>
 (uncons x96.2).bind fun x98 =>
 (asPtr 2 0 (x98.1)).bind fun x99 =>
 (uncons x98.2).bind fun x100 =>
 (asPtr 0 0 (x100.1)).bind fun x101 =>
 (uncons x100.2).bind fun x102 =>
 (asPtr 3 0 (x102.1)).bind fun x103 =>
 (isNil x102.2).bind fun x104 =>
 (isNil x95.2).bind fun x105 =>
 (C.p (.func 79) [.agg [.int .i64 x77, .int .i64 x79]]).bind fun x106 =>
 (asCells (x106)).bind fun x107 =>
 (uncons x107).bind fun x108 =>
 (asInt .i64 (x108.1)).bind fun x109 =>
 (uncons x108.2).bind fun x110 =>
 (asInt .i64 (x110.1)).bind fun x111 =>
 (isNil x110.2).bind fun x112 =>
 (mfind (eqT GP 8 100) [.int .i64 n2, .int .i64 n3] x87).bind fun x113 =>
 some (.agg [.int .i64 x109, .int .i64 x111], [.cells [.slice .any x84], .map true true 2 (mput x87 x113 [.int .i64 n2, .int .i64 n3] [.int .i64 x109, .int .i64 x111]), .cells [.map 1], .cells [.fn (.func 78) [] [.ptr 2 0, .ptr 0 0, .ptr 3 0]]])) (
 (C.s (.func 78) [.int .i64 n2, .int .i64 (IntKind.wrap .i64 (n3 - 1)), .ptr 2 0, .ptr 0 0, .ptr 3 0] [.cells [.slice .any r0], .map true true 2 m1, .cells [.map 1], .cells [.fn (.func 78) [] [.ptr 2 0, .ptr 0 0, .ptr 3 0]]]).bind fun x2 =>
 (asCells (x2.1)).bind fun x3 =>
 (uncons x3).bind fun x4 =>
 (asInt .i64 (x4.1)).bind fun x5 =>
 (uncons x4.2).bind fun x6 =>
 (asInt .i64 (x6.1)).bind fun x7 =>
 (isNil x6.2).bind fun x8 =>
 (unconsO x2.2).bind fun x9 =>
 (asObCells x9.1).bind fun x10 =>
 (uncons x10).bind fun x11 =>
 (asRows (x11.1)).bind fun x12 =>
 (isNil x11.2).bind fun x13 =>
 (unconsO x9.2).bind fun x14 =>
 (asMap true true 2 x14.1).bind fun x15 =>
 (unconsO x14.2).bind fun x16 =>
 (asObCells x16.1).bind fun x17 =>
 (uncons x17).bind fun x18 =>
 (asMapV 1 (x18.1)).bind fun x19 =>
 (isNil x18.2).bind fun x20 =>
 (unconsO x16.2).bind fun x21 =>
 (asObCells x21.1).bind fun x22 =>
 (uncons x22).bind fun x23 =>
 (asFn (.func 78) (x23.1)).bind fun x24 =>
 (isNil x24.1).bind fun x25 =>
 (uncons x24.2).bind fun x26 =>
 (asPtr 2 0 (x26.1)).bind fun x27 =>
 (uncons x26.2).bind fun x28 =>
 (asPtr 0 0 (x28.1)).bind fun x29 =>
 (uncons x28.2).bind fun x30 =>
 (asPtr 3 0 (x30.1)).bind fun x31 =>
 (isNil x30.2).bind fun x32 =>
 (isNil x23.2).bind fun x33 =>
 (C.s (.func 78) [.int .i64 n2, .int .i64 1, .ptr 2 0, .ptr 0 0, .ptr 3 0] [.cells [.slice .any x12], .map true true 2 x15, .cells [.map 1], .cells [.fn (.func 78) [] [.ptr 2 0, .ptr 0 0, .ptr 3 0]]]).bind fun x34 =>
 (asCells (x34.1)).bind fun x35 =>
 (uncons x35).bind fun x36 =>
 (asInt .i64 (x36.1)).bind fun x37 =>
 (uncons x36.2).bind fun x38 =>
 (asInt .i64 (x38.1)).bind fun x39 =>
 (isNil x38.2).bind fun x40 =>
 (unconsO x34.2).bind fun x41 =>
 (asObCells x41.1).bind fun x42 =>
 (uncons x42).bind fun x43 =>
 (asRows (x43.1)).bind fun x44 =>
 (isNil x43.2).bind fun x45 =>
 (unconsO x41.2).bind fun x46 =>
 (asMap true true 2 x46.1).bind fun x47 =>
 (unconsO x46.2).bind fun x48 =>
 (asObCells x48.1).bind fun x49 =>
 (uncons x49).bind fun x50 =>
 (asMapV 1 (x50.1)).bind fun x51 =>
 (isNil x50.2).bind fun x52 =>
 (unconsO x48.2).bind fun x53 =>
 (asObCells x53.1).bind fun x54 =>
 (uncons x54).bind fun x55 =>
 (asFn (.func 78) (x55.1)).bind fun x56 =>
 (isNil x56.1).bind fun x57 =>
 (uncons x56.2).bind fun x58 =>
 (asPtr 2 0 (x58.1)).bind fun x59 =>
 (uncons x58.2).bind fun x60 =>
 (asPtr 0 0 (x60.1)).bind fun x61 =>
 (uncons x60.2).bind fun x62 =>
 (asPtr 3 0 (x62.1)).bind fun x63 =>
 (isNil x62.2).bind fun x64 =>
 (isNil x55.2).bind fun x65 =>
 (C.p (.func 65) [.agg [.int .i64 x5, .int .i64 x7], .agg [.int .i64 x37, .int .i64 x39]]).bind fun x66 =>
 (asCells (x66)).bind fun x67 =>
 (uncons x67).bind fun x68 =>
 (asInt .i64 (x68.1)).bind fun x69 =>
 (uncons x68.2).bind fun x70 =>
 (asInt .i64 (x70.1)).bind fun x71 =>
 (isNil x70.2).bind fun x72 =>
 (mfind (eqT GP 8 100) [.int .i64 n2, .int .i64 n3] x47).bind fun x73 =>
 some (.agg [.int .i64 x69, .int .i64 x71], [.cells [.slice .any x44], .map true true 2 (mput x47 x73 [.int .i64 n2, .int .i64 n3] [.int .i64 x69, .int .i64 x71]), .cells [.map 1], .cells [.fn (.func 78) [] [.ptr 2 0, .ptr 0 0, .ptr 3 0]]]))))
 | some x1 =>
 (mval m1 x1).bind fun x235 =>
 (uncons x235).bind fun x236 =>
 (asInt .i64 (x236.1)).bind fun x237 =>
 (uncons x236.2).bind fun x238 =>
 (asInt .i64 (x238.1)).bind fun x239 =>
 (isNil x238.2).bind fun x240 =>
 some (.agg [.int .i64 x237, .int .i64 x239], [.cells [.slice .any r0], .map true true 2 m1, .cells [.map 1], .cells [.fn (.func 78) [] [.ptr 2 0, .ptr 0 0, .ptr 3 0]]]) := by kernel_rfl
theorem e25_8 (C : CallT) (r0 : List (List V)) (m1 : List (List V × List V)) (n2 : Int) (n3 : Int) (n4 : Int) (n5 : Int) (n6 : Int) (n7 : Int) (r8 : List (List V)) (n9 : Int) (n10 : Int) (n11 : Int) (n12 : Int) (n13 : Int) (n14 : Int) (n15 : Int) (n16 : Int) (n17 : Int) : roundK GD LD C 25 none 8 (S25_8 n2 n3 n4 n5 n6 n7 r8 n9 n10 n11 n12 n13 n14 n15 n16 n17 r0 m1) =
 cond (decide (n17 < 6)) (
 cond (decide (0 ≤ n17)) (
 cond (decide (n17.toNat < 6)) (
 (nthI [n11, n12, n13, n14, n15, n16] (n17.toNat * 1)).bind fun x0 =>
 cond (decide (x0 > 0)) (
 (C.s (.func 78) [.int .i64 n17, .int .i64 (IntKind.wrap .i64 x0), .ptr 2 0, .ptr 0 0, .ptr 3 0] [.cells [.slice .any r0], .map true true 2 m1, .cells [.map 1], .cells [.fn (.func 78) [] [.ptr 2 0, .ptr 0 0, .ptr 3 0]]]).bind fun x1 =>
 (asCells (x1.1)).bind fun x2 =>
 (uncons x2).bind fun x3 =>
 (asInt .i64 (x3.1)).bind fun x4 =>
 (uncons x3.2).bind fun x5 =>
 (asInt .i64 (x5.1)).bind fun x6 =>
 (isNil x5.2).bind fun x7 =>
 (unconsO x1.2).bind fun x8 =>
 (asObCells x8.1).bind fun x9 =>
 (uncons x9).bind fun x10 =>
 (asRows (x10.1)).bind fun x11 =>
 (isNil x10.2).bind fun x12 =>
 (unconsO x8.2).bind fun x13 =>
 (asMap true true 2 x13.1).bind fun x14 =>
 (unconsO x13.2).bind fun x15 =>
 (asObCells x15.1).bind fun x16 =>
 (uncons x16).bind fun x17 =>
 (asMapV 1 (x17.1)).bind fun x18 =>
 (isNil x17.2).bind fun x19 =>
 (unconsO x15.2).bind fun x20 =>
 (asObCells x20.1).bind fun x21 =>
 (uncons x21).bind fun x22 =>
 (asFn (.func 78) (x22.1)).bind fun x23 =>
 (isNil x23.1).bind fun x24 =>
 (uncons x23.2).bind fun x25 =>
 (asPtr 2 0 (x25.1)).bind fun x26 =>
 (uncons x25.2).bind fun x27 =>
 (asPtr 0 0 (x27.1)).bind fun x28 =>
 (uncons x27.2).bind fun x29 =>
 (asPtr 3 0 (x29.1)).bind fun x30 =>
 (isNil x29.2).bind fun x31 =>
 (isNil x22.2).bind fun x32 =>
 (C.p (.func 65) [.agg [.int .i64 n6, .int .i64 n7], .agg [.int .i64 x4, .int .i64 x6]]).bind fun x33 =>
 (asCells (x33)).bind fun x34 =>
 (uncons x34).bind fun x35 =>
 (asInt .i64 (x35.1)).bind fun x36 =>
 (uncons x35.2).bind fun x37 =>
 (asInt .i64 (x37.1)).bind fun x38 =>
 (isNil x37.2).bind fun x39 =>
 some (.normal, (S25_8 n2 n3 n4 n5 x36 x38 r8 n9 n10 n11 n12 n13 n14 n15 n16 (IntKind.wrap .i64 (n17 + 1)) x11 x14))) (
 some (.normal, (S25_8 n2 n3 n4 n5 n6 n7 r8 n9 n10 n11 n12 n13 n14 n15 n16 (IntKind.wrap .i64 (n17 + 1)) r0 m1)))) (
 none)) (
 none)) (
 some ((.exit 2), (S25_8 n2 n3 n4 n5 n6 n7 r8 n9 n10 n11 n12 n13 n14 n15 n16 n17 r0 m1))) := by kernel_rfl
theorem e25_4 (C : CallT) (r0 : List (List V)) (m1 : List (List V × List V)) (n2 : Int) (n3 : Int) (n4 : Int) (n5 : Int) (r6 : List (List V)) (n7 : Int) (n8 : Int) : roundK GD LD C 25 none 4 (S25_4 n2 n3 n4 n5 r6 n7 n8 r0 m1) =
 cond (decide (n8 < n7)) (
 (getRow r6 n8 7).bind fun x0 =>
 (uncons x0).bind fun x1 =>
 (asInt .i64 (x1.1)).bind fun x2 =>
 (uncons x1.2).bind fun x3 =>
 (asInt .u8 (x3.1)).bind fun x4 =>
 (uncons x3.2).bind fun x5 =>
 (asInt .u8 (x5.1)).bind fun x6 =>
 (uncons x5.2).bind fun x7 =>
 (asInt .u8 (x7.1)).bind fun x8 =>
 (uncons x7.2).bind fun x9 =>
 (asInt .u8 (x9.1)).bind fun x10 =>
 (uncons x9.2).bind fun x11 =>
 (asInt .u8 (x11.1)).bind fun x12 =>
 (uncons x11.2).bind fun x13 =>
 (asInt .u8 (x13.1)).bind fun x14 =>
 (isNil x13.2).bind fun x15 =>
 (C.p (.func 64) [.int .i64 x2]).bind fun x16 =>
 (asCells (x16)).bind fun x17 =>
 (uncons x17).bind fun x18 =>
 (asInt .i64 (x18.1)).bind fun x19 =>
 (uncons x18.2).bind fun x20 =>
 (asInt .i64 (x20.1)).bind fun x21 =>
 (isNil x20.2).bind fun x22 =>
 (C.w (roundK GD LD C 25 none 8) (S25_8 n2 n3 n4 n5 x19 x21 r6 n7 n8 x4 x6 x8 x10 x12 x14 0 r0 m1)).bind fun x23 =>
 match x23.1 with
 | .normal =>
 none
 | .exit x25 =>
 cond (Nat.beq x25 2) (
 (asBox ((nth x23.2.t 4))).bind fun x26 =>
 (uncons x26).bind fun x27 =>
 (asInt .i64 (x27.1)).bind fun x28 =>
 (uncons x27.2).bind fun x29 =>
 (asInt .i64 (x29.1)).bind fun x30 =>
 (isNil x29.2).bind fun x31 =>
 (asFn (.func 78) ((nth x23.2.t 5))).bind fun x32 =>
 (isNil x32.1).bind fun x33 =>
 (uncons x32.2).bind fun x34 =>
 (asPtr 2 0 (x34.1)).bind fun x35 =>
 (uncons x34.2).bind fun x36 =>
 (asPtr 0 0 (x36.1)).bind fun x37 =>
 (uncons x36.2).bind fun x38 =>
 (asPtr 3 0 (x38.1)).bind fun x39 =>
 (isNil x38.2).bind fun x40 =>
 (asBox ((nth x23.2.t 6))).bind fun x41 =>
 (uncons x41).bind fun x42 =>
 (asInt .i64 (x42.1)).bind fun x43 =>
 (uncons x42.2).bind fun x44 =>
 (asInt .i64 (x44.1)).bind fun x45 =>
 (isNil x44.2).bind fun x46 =>
 (asBox ((nth x23.2.t 9))).bind fun x47 =>
 (uncons x47).bind fun x48 =>
 (asInt .i64 (x48.1)).bind fun x49 =>
 (uncons x48.2).bind fun x50 =>
 (asInt .i64 (x50.1)).bind fun x51 =>
 (isNil x50.2).bind fun x52 =>
 (asRows ((nth x23.2.t 15))).bind fun x53 =>
 (asInt .i64 ((nth x23.2.t 16))).bind fun x54 =>
 (asInt .i64 ((nth x23.2.t 17))).bind fun x55 =>
 (asCells ((nth x23.2.t 25))).bind fun x56 =>
 (uncons x56).bind fun x57 =>
 (asInt .u8 (x57.1)).bind fun x58 =>
 (uncons x57.2).bind fun x59 =>
 (asInt .u8 (x59.1)).bind fun x60 =>
 (uncons x59.2).bind fun x61 =>
 (asInt .u8 (x61.1)).bind fun x62 =>
 (uncons x61.2).bind fun x63 =>
 (asInt .u8 (x63.1)).bind fun x64 =>
 (uncons x63.2).bind fun x65 =>
 (asInt .u8 (x65.1)).bind fun x66 =>
 (uncons x65.2).bind fun x67 =>
 (asInt .u8 (x67.1)).bind fun x68 =>
 (isNil x67.2).bind fun x69 =>
 (asInt .i64 ((nth x23.2.t 26))).bind fun x70 =>
 (unconsO x23.2.h).bind fun x71 =>
 (asObCells x71.1).bind fun x72 =>
 (uncons x72).bind fun x73 =>
 (asRows (x73.1)).bind fun x74 =>
 (isNil x73.2).bind fun x75 =>
 (unconsO x71.2).bind fun x76 =>
 (asMap true true 2 x76.1).bind fun x77 =>
 (unconsO x76.2).bind fun x78 =>
 (asObCells x78.1).bind fun x79 =>
 (uncons x79).bind fun x80 =>
 (asMapV 1 (x80.1)).bind fun x81 =>
 (isNil x80.2).bind fun x82 =>
 (unconsO x78.2).bind fun x83 =>
 (asObCells x83.1).bind fun x84 =>
 (uncons x84).bind fun x85 =>
 (asFn (.func 78) (x85.1)).bind fun x86 =>
 (isNil x86.1).bind fun x87 =>
 (uncons x86.2).bind fun x88 =>
 (asPtr 2 0 (x88.1)).bind fun x89 =>
 (uncons x88.2).bind fun x90 =>
 (asPtr 0 0 (x90.1)).bind fun x91 =>
 (uncons x90.2).bind fun x92 =>
 (asPtr 3 0 (x92.1)).bind fun x93 =>
 (isNil x92.2).bind fun x94 =>
 (isNil x85.2).bind fun x95 =>
 (C.p (.func 66) [.agg [.int .i64 x43, .int .i64 x45], .agg [.int .i64 x49, .int .i64 x51]]).bind fun x96 =>
 (asCells (x96)).bind fun x97 =>
 (uncons x97).bind fun x98 =>
 (asInt .i64 (x98.1)).bind fun x99 =>
 (uncons x98.2).bind fun x100 =>
 (asInt .i64 (x100.1)).bind fun x101 =>
 (isNil x100.2).bind fun x102 =>
 some (.normal, (S25_4 x28 x30 x99 x101 x53 x54 (IntKind.wrap .i64 (x55 + 1)) x74 x77))) (
 none)
 | .ret =>
 none) (
 some ((.exit 0), (S25_4 n2 n3 n4 n5 r6 n7 n8 r0 m1))) := by kernel_rfl
theorem s63_in25 (C : CallT) (r0 : List (List V)) : run1 GD LD C (.func 63) [.slice .any r0] [] =
 some (.fn (.func 78) [] [.ptr 2 0, .ptr 0 0, .ptr 3 0], [.cells [.slice .any r0], .map true true 2 [], .cells [.map 1], .cells [.fn (.func 78) [] [.ptr 2 0, .ptr 0 0, .ptr 3 0]]]) := by kernel_rfl
theorem e25 (C : CallT) (r0 : List (List V)) (r1 : List (List V)) : run1 GD LD C (.func 25) [.slice .any r0, .slice .any r1] [] =
 (C.s (.func 63) [.slice .any r1] []).bind fun x0 =>
 (asFn (.func 78) (x0.1)).bind fun x1 =>
 (isNil x1.1).bind fun x2 =>
 (uncons x1.2).bind fun x3 =>
 (asPtr 2 0 (x3.1)).bind fun x4 =>
 (uncons x3.2).bind fun x5 =>
 (asPtr 0 0 (x5.1)).bind fun x6 =>
 (uncons x5.2).bind fun x7 =>
 (asPtr 3 0 (x7.1)).bind fun x8 =>
 (isNil x7.2).bind fun x9 =>
 (unconsO x0.2).bind fun x10 =>
 (asObCells x10.1).bind fun x11 =>
 (uncons x11).bind fun x12 =>
 (asRows (x12.1)).bind fun x13 =>
 (isNil x12.2).bind fun x14 =>
 (unconsO x10.2).bind fun x15 =>
 (asMap true true 2 x15.1).bind fun x16 =>
 (unconsO x15.2).bind fun x17 =>
 (asObCells x17.1).bind fun x18 =>
 (uncons x18).bind fun x19 =>
 (asMapV 1 (x19.1)).bind fun x20 =>
 (isNil x19.2).bind fun x21 =>
 (unconsO x17.2).bind fun x22 =>
 (asObCells x22.1).bind fun x23 =>
 (uncons x23).bind fun x24 =>
 (asFn (.func 78) (x24.1)).bind fun x25 =>
 (isNil x25.1).bind fun x26 =>
 (uncons x25.2).bind fun x27 =>
 (asPtr 2 0 (x27.1)).bind fun x28 =>
 (uncons x27.2).bind fun x29 =>
 (asPtr 0 0 (x29.1)).bind fun x30 =>
 (uncons x29.2).bind fun x31 =>
 (asPtr 3 0 (x31.1)).bind fun x32 =>
 (isNil x31.2).bind fun x33 =>
 (isNil x24.2).bind fun x34 =>
 (C.p (.func 64) [.int .i64 0]).bind fun x35 =>
 (asCells (x35)).bind fun x36 =>
 (uncons x36).bind fun x37 =>
 (asInt .i64 (x37.1)).bind fun x38 =>
 (uncons x37.2).bind fun x39 =>
 (asInt .i64 (x39.1)).bind fun x40 =>
 (isNil x39.2).bind fun x41 =>
 (C.w (roundK GD LD C 25 none 4) (S25_4 0 0 x38 x40 r0 ((r0.length : Nat) : Int) 0 x13 x16)).bind fun x42 =>
 match x42.1 with
 | .normal =>
 none
 | .exit x44 =>
 cond (Nat.beq x44 0) (
 (asBox ((nth x42.2.t 4))).bind fun x45 =>
 (uncons x45).bind fun x46 =>
 (asInt .i64 (x46.1)).bind fun x47 =>
 (uncons x46.2).bind fun x48 =>
 (asInt .i64 (x48.1)).bind fun x49 =>
 (isNil x48.2).bind fun x50 =>
 (asFn (.func 78) ((nth x42.2.t 5))).bind fun x51 =>
 (isNil x51.1).bind fun x52 =>
 (uncons x51.2).bind fun x53 =>
 (asPtr 2 0 (x53.1)).bind fun x54 =>
 (uncons x53.2).bind fun x55 =>
 (asPtr 0 0 (x55.1)).bind fun x56 =>
 (uncons x55.2).bind fun x57 =>
 (asPtr 3 0 (x57.1)).bind fun x58 =>
 (isNil x57.2).bind fun x59 =>
 (asBox ((nth x42.2.t 6))).bind fun x60 =>
 (uncons x60).bind fun x61 =>
 (asInt .i64 (x61.1)).bind fun x62 =>
 (uncons x61.2).bind fun x63 =>
 (asInt .i64 (x63.1)).bind fun x64 =>
 (isNil x63.2).bind fun x65 =>
 (asRows ((nth x42.2.t 15))).bind fun x66 =>
 (asInt .i64 ((nth x42.2.t 16))).bind fun x67 =>
 (asInt .i64 ((nth x42.2.t 17))).bind fun x68 =>
 (unconsO x42.2.h).bind fun x69 =>
 (asObCells x69.1).bind fun x70 =>
 (uncons x70).bind fun x71 =>
 (asRows (x71.1)).bind fun x72 =>
 (isNil x71.2).bind fun x73 =>
 (unconsO x69.2).bind fun x74 =>
 (asMap true true 2 x74.1).bind fun x75 =>
 (unconsO x74.2).bind fun x76 =>
 (asObCells x76.1).bind fun x77 =>
 (uncons x77).bind fun x78 =>
 (asMapV 1 (x78.1)).bind fun x79 =>
 (isNil x78.2).bind fun x80 =>
 (unconsO x76.2).bind fun x81 =>
 (asObCells x81.1).bind fun x82 =>
 (uncons x82).bind fun x83 =>
 (asFn (.func 78) (x83.1)).bind fun x84 =>
 (isNil x84.1).bind fun x85 =>
 (uncons x84.2).bind fun x86 =>
 (asPtr 2 0 (x86.1)).bind fun x87 =>
 (uncons x86.2).bind fun x88 =>
 (asPtr 0 0 (x88.1)).bind fun x89 =>
 (uncons x88.2).bind fun x90 =>
 (asPtr 3 0 (x90.1)).bind fun x91 =>
 (isNil x90.2).bind fun x92 =>
 (isNil x83.2).bind fun x93 =>
 some (.agg [.int .i64 x62, .int .i64 x64], [.cells [.slice .any x72], .map true true 2 x75, .cells [.map 1], .cells [.fn (.func 78) [] [.ptr 2 0, .ptr 0 0, .ptr 3 0]]])) (
 none)
 | .ret =>
 none := by kernel_rfl
def S27_3 (p0 : Int) (p1 : List (List V)) (p2 : Int) (p3 : Int) : St := ⟨(sp 0 19 [(3, .int .i64 p0), (6, .slice .any p1), (7, .int .i64 p2), (8, .int .i64 p3)]), []⟩
theorem e27_3 (C : CallT) (n0 : Int) (r1 : List (List V)) (n2 : Int) (n3 : Int) : roundK GD LD C 27 none 3 (S27_3 n0 r1 n2 n3) =
 cond (decide (n3 < n2)) (
 (getRow r1 n3 7).bind fun x0 =>
 (uncons x0).bind fun x1 =>
 (asInt .i64 (x1.1)).bind fun x2 =>
 (uncons x1.2).bind fun x3 =>
 (asInt .u8 (x3.1)).bind fun x4 =>
 (uncons x3.2).bind fun x5 =>
 (asInt .u8 (x5.1)).bind fun x6 =>
 (uncons x5.2).bind fun x7 =>
 (asInt .u8 (x7.1)).bind fun x8 =>
 (uncons x7.2).bind fun x9 =>
 (asInt .u8 (x9.1)).bind fun x10 =>
 (uncons x9.2).bind fun x11 =>
 (asInt .u8 (x11.1)).bind fun x12 =>
 (uncons x11.2).bind fun x13 =>
 (asInt .u8 (x13.1)).bind fun x14 =>
 (isNil x13.2).bind fun x15 =>
 (C.p (.func 44) [.agg [.int .u8 x4, .int .u8 x6, .int .u8 x8, .int .u8 x10, .int .u8 x12, .int .u8 x14]]).bind fun x16 =>
 (asInt .i64 (x16)).bind fun x17 =>
 some (.normal, (S27_3 (if x17 > n0 then x17 else n0) r1 n2 (IntKind.wrap .i64 (n3 + 1))))) (
 some ((.exit 0), (S27_3 n0 r1 n2 n3))) := by kernel_rfl
theorem e27 (C : CallT) (r0 : List (List V)) : run1 GD LD C (.func 27) [.slice .any r0] [] =
 (C.w (roundK GD LD C 27 none 3) (S27_3 (-1) r0 ((r0.length : Nat) : Int) 0)).bind fun x0 =>
 match x0.1 with
 | .normal =>
 none
 | .exit x2 =>
 cond (Nat.beq x2 0) (
 (asInt .i64 ((nth x0.2.t 3))).bind fun x3 =>
 (asRows ((nth x0.2.t 6))).bind fun x4 =>
 (asInt .i64 ((nth x0.2.t 7))).bind fun x5 =>
 (asInt .i64 ((nth x0.2.t 8))).bind fun x6 =>
 some (.int .i64 x3, [])) (
 none)
 | .ret =>
 none := by kernel_rfl
theorem e29 (C : CallT) (n0 : Int) : run1 GD LD C (.func 29) [.int .i64 n0] [] =
 cond (n0 == 0) (
 some (.slice .nil [], [])) (
 some (.slice .any [[.int .i64 n0, .int .u8 0, .int .u8 0, .int .u8 0, .int .u8 0, .int .u8 0, .int .u8 0]], [])) := by kernel_rfl
theorem e31 (C : CallT) (n0 : Int) : run1 GD LD C (.func 31) [.int .i64 n0] [] =
 cond (decide (n0 < 0)) (
 some (.slice .nil [], [])) (
 cond (decide (n0 ≥ 6)) (
 some (.slice .nil [], [])) (
 cond (decide (0 ≤ n0)) (
 cond (decide (n0.toNat < 6)) (
 cond (false || ((true && (Nat.beq (1 + (n0.toNat * 1)) 1)) || ((true && (Nat.beq (1 + (n0.toNat * 1)) 2)) || ((true && (Nat.beq (1 + (n0.toNat * 1)) 3)) || ((true && (Nat.beq (1 + (n0.toNat * 1)) 4)) || ((true && (Nat.beq (1 + (n0.toNat * 1)) 5)) || ((true && (Nat.beq (1 + (n0.toNat * 1)) 6)) || false))))))) (
 some (.slice .any [[.int .i64 65536, .int .u8 (cond (Nat.beq (1 + (n0.toNat * 1)) 1) 1 0), .int .u8 (cond (Nat.beq (1 + (n0.toNat * 1)) 2) 1 0), .int .u8 (cond (Nat.beq (1 + (n0.toNat * 1)) 3) 1 0), .int .u8 (cond (Nat.beq (1 + (n0.toNat * 1)) 4) 1 0), .int .u8 (cond (Nat.beq (1 + (n0.toNat * 1)) 5) 1 0), .int .u8 (cond (Nat.beq (1 + (n0.toNat * 1)) 6) 1 0)]], [])) (
 none)) (
 none)) (
 none))) := by kernel_rfl
def S52_3 (p0 : Int) (p1 : List (List V)) (p2 : Int) (p3 : Int) (p4 : Nat) (p5 : List (List V)) (p6 : Int) (p7 : Int) (p8 : Int) (p9 : Int) (p10 : List (List V)) : St := ⟨(sp 0 61 [(1, .int .i64 p0), (5, .ptr 0 0), (6, .slice .any p1), (7, .box [.int .i64 p2, .int .i64 p3]), (8, .arr 1 p4 7), (12, .slice .any p5), (13, .int .i64 p6), (14, .int .i64 p7)]), [.cells [.int .i64 p8, .int .i64 p9], .arr true 7 p10]⟩
def S52_3_v1 (p0 : Int) (p1 : Int) (p2 : Int) (p3 : Nat) (p4 : List (List V)) (p5 : Int) (p6 : Int) (p7 : Int) (p8 : Int) (p9 : List (List V)) : St := ⟨(sp 0 61 [(1, .int .i64 p0), (5, .ptr 0 0), (6, .slice .nil []), (7, .box [.int .i64 p1, .int .i64 p2]), (8, .arr 1 p3 7), (12, .slice .any p4), (13, .int .i64 p5), (14, .int .i64 p6)]), [.cells [.int .i64 p7, .int .i64 p8], .arr true 7 p9]⟩
theorem s61_in52 (C : CallT) (r0 : List (List V)) (n1 : Int) (n2 : Int) (n3 : Int) (n4 : Int) (n5 : Int) (n6 : Int) (n7 : Int) (n8 : Int) (n9 : Int) : run1 GD LD C (.func 61) [.ptr 0 0, .int .i64 n3, .agg [.int .u8 n4, .int .u8 n5, .int .u8 n6, .int .u8 n7, .int .u8 n8, .int .u8 n9]] [.cells [.int .i64 n1, .int .i64 n2], .arr true 7 r0] =
 cond ((n4 == 0) && ((n5 == 0) && ((n6 == 0) && ((n7 == 0) && ((n8 == 0) && ((n9 == 0) && true)))))) (
 some (.tuple [], [.cells [.int .i64 (IntKind.wrap .i64 (n1 + n3)), .int .i64 (IntKind.wrap .i64 (n2 + n3))], .arr true 7 r0])) (
 (C.p (.func 74) [.agg [.int .u8 n4, .int .u8 n5, .int .u8 n6, .int .u8 n7, .int .u8 n8, .int .u8 n9]]).bind fun x0 =>
 (asBool (x0)).bind fun x1 =>
 cond x1 (
 some (.tuple [], [.cells [.int .i64 (IntKind.wrap .i64 (n1 - (if (IntKind.wrap .i64 (0 - n3)) > n3 then (IntKind.wrap .i64 (0 - n3)) else n3))), .int .i64 (IntKind.wrap .i64 (n2 + (if (IntKind.wrap .i64 (0 - n3)) > n3 then (IntKind.wrap .i64 (0 - n3)) else n3)))], .arr true 7 r0])) (
 some (.tuple [], [.cells [.int .i64 (IntKind.wrap .i64 (n1 + (if 0 < n3 then 0 else n3))), .int .i64 (IntKind.wrap .i64 (n2 + (if 0 > n3 then 0 else n3)))], .arr true 7 r0]))) := by kernel_rfl
theorem e52_3 (C : CallT) (r0 : List (List V)) (n1 : Int) (n2 : Int) (n3 : Int) (r4 : List (List V)) (n5 : Int) (n6 : Int) (r7 : List (List V)) (n8 : Int) (n9 : Int) : roundK GD LD C 52 none 3 (S52_3 n3 r4 n5 n6 r0.length r7 n8 n9 n1 n2 r0) =
 cond (decide (n9 < n8)) (
 (getRow r7 n9 7).bind fun x0 =>
 (uncons x0).bind fun x1 =>
 (asInt .i64 (x1.1)).bind fun x2 =>
 (uncons x1.2).bind fun x3 =>
 (asInt .u8 (x3.1)).bind fun x4 =>
 (uncons x3.2).bind fun x5 =>
 (asInt .u8 (x5.1)).bind fun x6 =>
 (uncons x5.2).bind fun x7 =>
 (asInt .u8 (x7.1)).bind fun x8 =>
 (uncons x7.2).bind fun x9 =>
 (asInt .u8 (x9.1)).bind fun x10 =>
 (uncons x9.2).bind fun x11 =>
 (asInt .u8 (x11.1)).bind fun x12 =>
 (uncons x11.2).bind fun x13 =>
 (asInt .u8 (x13.1)).bind fun x14 =>
 (isNil x13.2).bind fun x15 =>
 (C.p (.func 43) [.int .i64 x2]).bind fun x16 =>
 (asBool (x16)).bind fun x17 =>
 cond (!x17) (
 (C.p (.func 71) []).bind fun x32 =>
 (asCells (x32)).bind fun x33 =>
 (uncons x33).bind fun x34 =>
 (asInt .i64 (x34.1)).bind fun x35 =>
 (uncons x34.2).bind fun x36 =>
 (asInt .i64 (x36.1)).bind fun x37 =>
 (isNil x36.2).bind fun x38 =>
 some (.ret, (S52_3_v1 n3 x35 x37 r0.length r7 n8 n9 n1 n2 r0))) (
 cond (x2 == 0) (
 some (.normal, (S52_3 n3 r4 n5 n6 r0.length r7 n8 (IntKind.wrap .i64 (n9 + 1)) n1 n2 r0))) (
 (C.p (.func 44) [.agg [.int .u8 x4, .int .u8 x6, .int .u8 x8, .int .u8 x10, .int .u8 x12, .int .u8 x14]]).bind fun x18 =>
 (asInt .i64 (x18)).bind fun x19 =>
 cond (decide (x19 ≤ (if 6 < n3 then 6 else n3))) (
 cond (decide (r0.length = r0.length)) (
 cond (decide (((r0.length + 1) * 16) ≤ room)) (
 some (.normal, (S52_3 n3 r4 n5 n6 (r0.length + 1) r7 n8 (IntKind.wrap .i64 (n9 + 1)) n1 n2 (List.append r0 [[.int .i64 x2, .int .u8 x4, .int .u8 x6, .int .u8 x8, .int .u8 x10, .int .u8 x12, .int .u8 x14]])))) (
 none)) (
 none)) (
 (C.s (.func 61) [.ptr 0 0, .int .i64 x2, .agg [.int .u8 x4, .int .u8 x6, .int .u8 x8, .int .u8 x10, .int .u8 x12, .int .u8 x14]] [.cells [.int .i64 n1, .int .i64 n2], .arr true 7 r0]).bind fun x20 =>
 (asTuple (x20.1)).bind fun x21 =>
 (isNil x21).bind fun x22 =>
 (unconsO x20.2).bind fun x23 =>
 (asObCells x23.1).bind fun x24 =>
 (uncons x24).bind fun x25 =>
 (asInt .i64 (x25.1)).bind fun x26 =>
 (uncons x25.2).bind fun x27 =>
 (asInt .i64 (x27.1)).bind fun x28 =>
 (isNil x27.2).bind fun x29 =>
 (unconsO x23.2).bind fun x30 =>
 (asObArr true 7 x30.1).bind fun x31 =>
 some (.normal, (S52_3 n3 r4 n5 n6 r0.length r7 n8 (IntKind.wrap .i64 (n9 + 1)) x26 x28 x31)))))) (
 some ((.exit 0), (S52_3 n3 r4 n5 n6 r0.length r7 n8 n9 n1 n2 r0))) := by kernel_rfl
theorem e52 (C : CallT) (r0 : List (List V)) (n1 : Int) (n2 : Int) (n3 : Int) : run1 GD LD C (.func 52) [.slice .any r0, .int .i64 n1, .agg [.int .i64 n2, .int .i64 n3]] [] =
 (C.w (roundK GD LD C 52 none 3) (S52_3 n1 [] 0 0 0 r0 ((r0.length : Nat) : Int) 0 n2 n3 [])).bind fun x0 =>
 match x0.1 with
 | .normal =>
 none
 | .exit x2 =>
 cond (Nat.beq x2 0) (
 (asInt .i64 ((nth x0.2.t 1))).bind fun x3 =>
 (asPtr 0 0 ((nth x0.2.t 5))).bind fun x4 =>
 (asRows ((nth x0.2.t 6))).bind fun x5 =>
 (asBox ((nth x0.2.t 7))).bind fun x6 =>
 (uncons x6).bind fun x7 =>
 (asInt .i64 (x7.1)).bind fun x8 =>
 (uncons x7.2).bind fun x9 =>
 (asInt .i64 (x9.1)).bind fun x10 =>
 (isNil x9.2).bind fun x11 =>
 (asArr 1 7 ((nth x0.2.t 8))).bind fun x12 =>
 (asRows ((nth x0.2.t 12))).bind fun x13 =>
 (asInt .i64 ((nth x0.2.t 13))).bind fun x14 =>
 (asInt .i64 ((nth x0.2.t 14))).bind fun x15 =>
 (unconsO x0.2.h).bind fun x16 =>
 (asObCells x16.1).bind fun x17 =>
 (uncons x17).bind fun x18 =>
 (asInt .i64 (x18.1)).bind fun x19 =>
 (uncons x18.2).bind fun x20 =>
 (asInt .i64 (x20.1)).bind fun x21 =>
 (isNil x20.2).bind fun x22 =>
 (unconsO x16.2).bind fun x23 =>
 (asObArr true 7 x23.1).bind fun x24 =>
 (C.p (.func 62) [.int .i64 x19, .int .i64 x21]).bind fun x25 =>
 (asCells (x25)).bind fun x26 =>
 (uncons x26).bind fun x27 =>
 (asInt .i64 (x27.1)).bind fun x28 =>
 (uncons x27.2).bind fun x29 =>
 (asInt .i64 (x29.1)).bind fun x30 =>
 (isNil x29.2).bind fun x31 =>
 cond (decide (((x12 : Nat) : Int) ≤ 100)) (
 (C.p (.func 72) [.agg [.int .i64 x28, .int .i64 x30]]).bind fun x39 =>
 (asBool (x39)).bind fun x40 =>
 cond (!x40) (
 some (.tuple [.arr 1 x12 7, .agg [.int .i64 x28, .int .i64 x30]], [.cells [.int .i64 x19, .int .i64 x21], .arr true 7 x24])) (
 (C.p (.func 71) []).bind fun x41 =>
 (asCells (x41)).bind fun x42 =>
 (uncons x42).bind fun x43 =>
 (asInt .i64 (x43.1)).bind fun x44 =>
 (uncons x43.2).bind fun x45 =>
 (asInt .i64 (x45.1)).bind fun x46 =>
 (isNil x45.2).bind fun x47 =>
 some (.tuple [.slice .nil [], .agg [.int .i64 x44, .int .i64 x46]], [.cells [.int .i64 x19, .int .i64 x21], .arr true 7 x24]))) (
 (C.p (.func 71) []).bind fun x32 =>
 (asCells (x32)).bind fun x33 =>
 (uncons x33).bind fun x34 =>
 (asInt .i64 (x34.1)).bind fun x35 =>
 (uncons x34.2).bind fun x36 =>
 (asInt .i64 (x36.1)).bind fun x37 =>
 (isNil x36.2).bind fun x38 =>
 some (.tuple [.slice .nil [], .agg [.int .i64 x35, .int .i64 x37]], [.cells [.int .i64 x19, .int .i64 x21], .arr true 7 x24]))) (
 none)
 | .ret =>
 (asInt .i64 ((nth x0.2.t 1))).bind fun x48 =>
 (asPtr 0 0 ((nth x0.2.t 5))).bind fun x49 =>
 (asRows ((nth x0.2.t 6))).bind fun x50 =>
 (asBox ((nth x0.2.t 7))).bind fun x51 =>
 (uncons x51).bind fun x52 =>
 (asInt .i64 (x52.1)).bind fun x53 =>
 (uncons x52.2).bind fun x54 =>
 (asInt .i64 (x54.1)).bind fun x55 =>
 (isNil x54.2).bind fun x56 =>
 (asArr 1 7 ((nth x0.2.t 8))).bind fun x57 =>
 (asRows ((nth x0.2.t 12))).bind fun x58 =>
 (asInt .i64 ((nth x0.2.t 13))).bind fun x59 =>
 (asInt .i64 ((nth x0.2.t 14))).bind fun x60 =>
 (unconsO x0.2.h).bind fun x61 =>
 (asObCells x61.1).bind fun x62 =>
 (uncons x62).bind fun x63 =>
 (asInt .i64 (x63.1)).bind fun x64 =>
 (uncons x63.2).bind fun x65 =>
 (asInt .i64 (x65.1)).bind fun x66 =>
 (isNil x65.2).bind fun x67 =>
 (unconsO x61.2).bind fun x68 =>
 (asObArr true 7 x68.1).bind fun x69 =>
 some (.tuple [.slice .any x50, .agg [.int .i64 x53, .int .i64 x55]], [.cells [.int .i64 x64, .int .i64 x66], .arr true 7 x69]) := by kernel_rfl
end Go.Ab
