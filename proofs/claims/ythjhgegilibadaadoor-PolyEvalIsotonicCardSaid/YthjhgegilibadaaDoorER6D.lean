/- What one call of each function does, written out: by evaluation; conditions: none. -/
import Derived.KernelRfl
import Derived.Test.YthjhgegilibadaaDoorT
namespace Go.Ab
set_option linter.unusedVariables false
set_option linter.unusedSimpArgs false
set_option linter.unusedVariables false
set_option maxHeartbeats 2000000
set_option maxRecDepth 100000
def S6_5 (p0 : Int) (p1 : Int) (p2 : Int) (p3 : Int) (p4 : Int) (p5 : Int) (p6 : Int) (p7 : Bool) (p8 : List (List V)) (p9 : Nat) (p10 : Nat) (p11 : Int) (p12 : List (List V)) (p13 : List (List V)) : St := ⟨(sp 0 66 [(2, .int .u16 p0), (4, .box [.int .i64 p1, .int .i64 p2, .int .i64 p3, .int .i64 p4, .int .i64 p5, .int .i64 p6]), (7, .bool p7), (8, .slice .any p8), (10, .arr 0 p9 2), (11, .arr 1 p10 2), (12, .int .i64 p11)]), [.arr true 2 p12, .arr true 2 p13]⟩
theorem e6_5 (C : CallT) (r0 : List (List V)) (r1 : List (List V)) (n2 : Int) (n3 : Int) (n4 : Int) (n5 : Int) (n6 : Int) (n7 : Int) (n8 : Int) (b9 : Bool) (r10 : List (List V)) (n11 : Int) : roundK GD LD C 6 none 5 (S6_5 n2 n3 n4 n5 n6 n7 n8 b9 r10 r0.length r1.length n11 r0 r1) =
 cond (decide (n11 < 3)) (
 cond (decide (0 ≤ n11)) (
 cond (decide (n11.toNat < 3)) (
 (nthI [n3, n4, n5, n6, n7, n8] (n11.toNat * 2)).bind fun x0 =>
 (nthI [n3, n4, n5, n6, n7, n8] ((n11.toNat * 2) + 1)).bind fun x1 =>
 (C.p (.func 38) [.agg [.int .i64 x0, .int .i64 x1]]).bind fun x2 =>
 (asCells (x2)).bind fun x3 =>
 (uncons x3).bind fun x4 =>
 (asInt .i64 (x4.1)).bind fun x5 =>
 (uncons x4.2).bind fun x6 =>
 (asInt .i64 (x6.1)).bind fun x7 =>
 (isNil x6.2).bind fun x8 =>
 cond (decide (r0.length = r0.length)) (
 cond (decide (((r0.length + 1) * 16) ≤ room)) (
 (C.p (.func 39) [.int .i64 (IntKind.wrap .i64 (x5 - (IntKind.wrap .i64 n2))), .int .i64 (IntKind.wrap .i64 (x7 + (IntKind.wrap .i64 (Int.tdiv (IntKind.wrap .i64 n2) 2))))]).bind fun x9 =>
 (asCells (x9)).bind fun x10 =>
 (uncons x10).bind fun x11 =>
 (asInt .i64 (x11.1)).bind fun x12 =>
 (uncons x11.2).bind fun x13 =>
 (asInt .i64 (x13.1)).bind fun x14 =>
 (isNil x13.2).bind fun x15 =>
 cond (decide (r1.length = r1.length)) (
 cond (decide (((r1.length + 1) * 16) ≤ room)) (
 some (.normal, (S6_5 n2 n3 n4 n5 n6 n7 n8 b9 r10 (r0.length + 1) (r1.length + 1) (IntKind.wrap .i64 (n11 + 1)) (List.append r0 [[.int .i64 x5, .int .i64 x7]]) (List.append r1 [[.int .i64 x12, .int .i64 x14]])))) (
 none)) (
 none)) (
 none)) (
 none)) (
 none)) (
 none)) (
 some ((.exit 0), (S6_5 n2 n3 n4 n5 n6 n7 n8 b9 r10 r0.length r1.length n11 r0 r1))) := by kernel_rfl
theorem e6 (C : CallT) (r0 : List (List V)) (r1 : List (List V)) (n2 : Int) (n3 : Int) (n4 : Int) (n5 : Int) (n6 : Int) (n7 : Int) (n8 : Int) (n9 : Int) (n10 : Int) : run1 GD LD C (.func 6) [.agg [.slice .any r0, .slice .any r1, .int .i64 n2, .int .i8 n3], .agg [.int .i64 n4, .int .i64 n5, .int .i64 n6, .int .i64 n7, .int .i64 n8, .int .i64 n9], .int .u16 n10] [] =
 (C.p (.func 8) []).bind fun x0 =>
 (asBool (x0)).bind fun x1 =>
 (C.p (.func 37) [.agg [.slice .any r0, .slice .any r1, .int .i64 n2, .int .i8 n3]]).bind fun x2 =>
 (asTuple (x2)).bind fun x3 =>
 (uncons x3).bind fun x4 =>
 (asRows (x4.1)).bind fun x5 =>
 (uncons x4.2).bind fun x6 =>
 (asRows (x6.1)).bind fun x7 =>
 (isNil x6.2).bind fun x8 =>
 (C.w (roundK GD LD C 6 none 5) (S6_5 n10 n4 n5 n6 n7 n8 n9 x1 x5 0 0 0 [] [])).bind fun x9 =>
 match x9.1 with
 | .normal =>
 none
 | .exit x11 =>
 cond (Nat.beq x11 0) (
 (asInt .u16 ((nth x9.2.t 2))).bind fun x12 =>
 (asBox ((nth x9.2.t 4))).bind fun x13 =>
 (uncons x13).bind fun x14 =>
 (asInt .i64 (x14.1)).bind fun x15 =>
 (uncons x14.2).bind fun x16 =>
 (asInt .i64 (x16.1)).bind fun x17 =>
 (uncons x16.2).bind fun x18 =>
 (asInt .i64 (x18.1)).bind fun x19 =>
 (uncons x18.2).bind fun x20 =>
 (asInt .i64 (x20.1)).bind fun x21 =>
 (uncons x20.2).bind fun x22 =>
 (asInt .i64 (x22.1)).bind fun x23 =>
 (uncons x22.2).bind fun x24 =>
 (asInt .i64 (x24.1)).bind fun x25 =>
 (isNil x24.2).bind fun x26 =>
 (asBool ((nth x9.2.t 7))).bind fun x27 =>
 (asRows ((nth x9.2.t 8))).bind fun x28 =>
 (asArr 0 2 ((nth x9.2.t 10))).bind fun x29 =>
 (asArr 1 2 ((nth x9.2.t 11))).bind fun x30 =>
 (asInt .i64 ((nth x9.2.t 12))).bind fun x31 =>
 (unconsO x9.2.h).bind fun x32 =>
 (asObArr true 2 x32.1).bind fun x33 =>
 (unconsO x32.2).bind fun x34 =>
 (asObArr true 2 x34.1).bind fun x35 =>
 (arrRows [.arr true 2 x33, .arr true 2 x35] 0 x29).bind fun x36 =>
 (C.p (.func 25) [.slice .any x28, .slice .any x36]).bind fun x37 =>
 (asCells (x37)).bind fun x38 =>
 (uncons x38).bind fun x39 =>
 (asInt .i64 (x39.1)).bind fun x40 =>
 (uncons x39.2).bind fun x41 =>
 (asInt .i64 (x41.1)).bind fun x42 =>
 (isNil x41.2).bind fun x43 =>
 (arrRows [.arr false 2 x33, .arr true 2 x35] 1 x30).bind fun x44 =>
 (C.p (.func 25) [.slice .any x28, .slice .any x44]).bind fun x45 =>
 (asCells (x45)).bind fun x46 =>
 (uncons x46).bind fun x47 =>
 (asInt .i64 (x47.1)).bind fun x48 =>
 (uncons x47.2).bind fun x49 =>
 (asInt .i64 (x49.1)).bind fun x50 =>
 (isNil x49.2).bind fun x51 =>
 (C.p (.func 40) [.agg [.int .i64 x40, .int .i64 x42], .agg [.int .i64 x48, .int .i64 x50]]).bind fun x52 =>
 (asBool (x52)).bind fun x53 =>
 cond x53 (
 (C.p (.func 23) [.slice .any x28]).bind fun x54 =>
 (asCells (x54)).bind fun x55 =>
 (uncons x55).bind fun x56 =>
 (asInt .i64 (x56.1)).bind fun x57 =>
 (uncons x56.2).bind fun x58 =>
 (asInt .i64 (x58.1)).bind fun x59 =>
 (isNil x58.2).bind fun x60 =>
 (C.p (.func 25) [.slice .any x28, .slice .any []]).bind fun x61 =>
 (asCells (x61)).bind fun x62 =>
 (uncons x62).bind fun x63 =>
 (asInt .i64 (x63.1)).bind fun x64 =>
 (uncons x63.2).bind fun x65 =>
 (asInt .i64 (x65.1)).bind fun x66 =>
 (isNil x65.2).bind fun x67 =>
 (C.p (.func 40) [.agg [.int .i64 x57, .int .i64 x59], .agg [.int .i64 x64, .int .i64 x66]]).bind fun x68 =>
 (asBool (x68)).bind fun x69 =>
 cond x69 (
 some (.bool x27, [.arr false 2 x33, .arr false 2 x35])) (
 some (.bool false, [.arr false 2 x33, .arr false 2 x35]))) (
 some (.bool false, [.arr false 2 x33, .arr false 2 x35]))) (
 none)
 | .ret =>
 none := by kernel_rfl
end Go.Ab
