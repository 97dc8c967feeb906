/- What one call of each function does, written out: by evaluation; conditions: none. -/
import Derived.KernelRfl
import Derived.Test.YthjhgegilibadaaDoorT
namespace Go.Ab
set_option linter.unusedVariables false
set_option linter.unusedSimpArgs false
set_option linter.unusedVariables false
set_option maxHeartbeats 2000000
set_option maxRecDepth 100000
def S4_9 (p0 : Bool) (p1 : List (List V)) (p2 : List (List V)) (p3 : Int) (p4 : Int) (p5 : Int) (p6 : Int) (p7 : Int) (p8 : Int) (p9 : List (List V)) (p10 : Int) (p11 : Int) (p12 : Nat) (p13 : Int) (p14 : List (List V)) : St := ⟨(sp 0 96 [(5, .bool p0), (6, .slice .any p1), (7, .slice .any p2), (8, .box [.int .i64 p3, .int .i64 p4, .int .i64 p5, .int .i64 p6, .int .i64 p7, .int .i64 p8]), (9, .slice .any p9), (10, .box [.int .i64 p10, .int .i64 p11]), (11, .arr 0 p12 7), (12, .int .i64 p13)]), [.arr true 7 p14]⟩
theorem e4_9 (C : CallT) (r0 : List (List V)) (b1 : Bool) (r2 : List (List V)) (r3 : List (List V)) (n4 : Int) (n5 : Int) (n6 : Int) (n7 : Int) (n8 : Int) (n9 : Int) (r10 : List (List V)) (n11 : Int) (n12 : Int) (n13 : Int) : roundK GD LD C 4 none 9 (S4_9 b1 r2 r3 n4 n5 n6 n7 n8 n9 r10 n11 n12 r0.length n13 r0) =
 cond (decide (n13 < ((r2.length : Nat) : Int))) (
 (getRow r2 n13 7).bind fun x0 =>
 (uncons x0).bind fun x1 =>
 (asInt .i64 (x1.1)).bind fun x2 =>
 (uncons x1.2).bind fun x3 =>
 (asInt .u8 (x3.1)).bind fun x4 =>
 (uncons x3.2).bind fun x5 =>
 (asInt .u8 (x5.1)).bind fun x6 =>
 (uncons x5.2).bind fun x7 =>
 (asInt .u8 (x7.1)).bind fun x8 =>
 (uncons x7.2).bind fun x9 =>
 (asInt .u8 (x9.1)).bind fun x10 =>
 (uncons x9.2).bind fun x11 =>
 (asInt .u8 (x11.1)).bind fun x12 =>
 (uncons x11.2).bind fun x13 =>
 (asInt .u8 (x13.1)).bind fun x14 =>
 (isNil x13.2).bind fun x15 =>
 (getRow r2 n13 7).bind fun x16 =>
 (uncons x16).bind fun x17 =>
 (asInt .i64 (x17.1)).bind fun x18 =>
 (uncons x17.2).bind fun x19 =>
 (asInt .u8 (x19.1)).bind fun x20 =>
 (uncons x19.2).bind fun x21 =>
 (asInt .u8 (x21.1)).bind fun x22 =>
 (uncons x21.2).bind fun x23 =>
 (asInt .u8 (x23.1)).bind fun x24 =>
 (uncons x23.2).bind fun x25 =>
 (asInt .u8 (x25.1)).bind fun x26 =>
 (uncons x25.2).bind fun x27 =>
 (asInt .u8 (x27.1)).bind fun x28 =>
 (uncons x27.2).bind fun x29 =>
 (asInt .u8 (x29.1)).bind fun x30 =>
 (isNil x29.2).bind fun x31 =>
 cond (decide (r0.length = r0.length)) (
 cond (decide (((r0.length + 1) * 16) ≤ room)) (
 some (.normal, (S4_9 b1 r2 r3 n4 n5 n6 n7 n8 n9 r10 n11 n12 (r0.length + 1) (IntKind.wrap .i64 (n13 + 1)) (List.append r0 [[.int .i64 (IntKind.wrap .i64 (0 - x2)), .int .u8 x20, .int .u8 x22, .int .u8 x24, .int .u8 x26, .int .u8 x28, .int .u8 x30]])))) (
 none)) (
 none)) (
 some ((.exit 0), (S4_9 b1 r2 r3 n4 n5 n6 n7 n8 n9 r10 n11 n12 r0.length n13 r0))) := by kernel_rfl
theorem e4 (C : CallT) (r0 : List (List V)) (r1 : List (List V)) (n2 : Int) (n3 : Int) (n4 : Int) (n5 : Int) (n6 : Int) (n7 : Int) (n8 : Int) (n9 : Int) : run1 GD LD C (.func 4) [.agg [.slice .any r0, .slice .any r1, .int .i64 n2, .int .i8 n3], .agg [.int .i8 n4, .int .i8 n5, .int .i8 n6, .int .i8 n7, .int .i8 n8, .int .i8 n9]] [] =
 (C.p (.func 8) []).bind fun x0 =>
 (asBool (x0)).bind fun x1 =>
 (C.p (.func 11) [.agg [.slice .any r0, .slice .any r1, .int .i64 n2, .int .i8 n3]]).bind fun x2 =>
 (asTuple (x2)).bind fun x3 =>
 (uncons x3).bind fun x4 =>
 (asRows (x4.1)).bind fun x5 =>
 (uncons x4.2).bind fun x6 =>
 (asRows (x6.1)).bind fun x7 =>
 (isNil x6.2).bind fun x8 =>
 (C.p (.func 33) [.agg [.int .i8 n4, .int .i8 n5, .int .i8 n6, .int .i8 n7, .int .i8 n8, .int .i8 n9]]).bind fun x9 =>
 (asCells (x9)).bind fun x10 =>
 (uncons x10).bind fun x11 =>
 (asInt .i64 (x11.1)).bind fun x12 =>
 (uncons x11.2).bind fun x13 =>
 (asInt .i64 (x13.1)).bind fun x14 =>
 (uncons x13.2).bind fun x15 =>
 (asInt .i64 (x15.1)).bind fun x16 =>
 (uncons x15.2).bind fun x17 =>
 (asInt .i64 (x17.1)).bind fun x18 =>
 (uncons x17.2).bind fun x19 =>
 (asInt .i64 (x19.1)).bind fun x20 =>
 (uncons x19.2).bind fun x21 =>
 (asInt .i64 (x21.1)).bind fun x22 =>
 (isNil x21.2).bind fun x23 =>
 (C.p (.func 13) [.slice .any x5, .slice .any x7]).bind fun x24 =>
 (asTuple (x24)).bind fun x25 =>
 (uncons x25).bind fun x26 =>
 (asRows (x26.1)).bind fun x27 =>
 (uncons x26.2).bind fun x28 =>
 (asCells (x28.1)).bind fun x29 =>
 (uncons x29).bind fun x30 =>
 (asInt .i64 (x30.1)).bind fun x31 =>
 (uncons x30.2).bind fun x32 =>
 (asInt .i64 (x32.1)).bind fun x33 =>
 (isNil x32.2).bind fun x34 =>
 (isNil x28.2).bind fun x35 =>
 (C.p (.func 34) [.agg [.int .i64 x31, .int .i64 x33]]).bind fun x36 =>
 (asBool (x36)).bind fun x37 =>
 cond x37 (
 cond (((x27.length : Nat) : Int) == 0) (
 some (.bool x1, [])) (
 some (.bool false, []))) (
 (C.w (roundK GD LD C 4 none 9) (S4_9 x1 x5 x7 x12 x14 x16 x18 x20 x22 x27 x31 x33 0 0 [])).bind fun x38 =>
 match x38.1 with
 | .normal =>
 none
 | .exit x40 =>
 cond (Nat.beq x40 0) (
 (asBool ((nth x38.2.t 5))).bind fun x41 =>
 (asRows ((nth x38.2.t 6))).bind fun x42 =>
 (asRows ((nth x38.2.t 7))).bind fun x43 =>
 (asBox ((nth x38.2.t 8))).bind fun x44 =>
 (uncons x44).bind fun x45 =>
 (asInt .i64 (x45.1)).bind fun x46 =>
 (uncons x45.2).bind fun x47 =>
 (asInt .i64 (x47.1)).bind fun x48 =>
 (uncons x47.2).bind fun x49 =>
 (asInt .i64 (x49.1)).bind fun x50 =>
 (uncons x49.2).bind fun x51 =>
 (asInt .i64 (x51.1)).bind fun x52 =>
 (uncons x51.2).bind fun x53 =>
 (asInt .i64 (x53.1)).bind fun x54 =>
 (uncons x53.2).bind fun x55 =>
 (asInt .i64 (x55.1)).bind fun x56 =>
 (isNil x55.2).bind fun x57 =>
 (asRows ((nth x38.2.t 9))).bind fun x58 =>
 (asBox ((nth x38.2.t 10))).bind fun x59 =>
 (uncons x59).bind fun x60 =>
 (asInt .i64 (x60.1)).bind fun x61 =>
 (uncons x60.2).bind fun x62 =>
 (asInt .i64 (x62.1)).bind fun x63 =>
 (isNil x62.2).bind fun x64 =>
 (asArr 0 7 ((nth x38.2.t 11))).bind fun x65 =>
 (asInt .i64 ((nth x38.2.t 12))).bind fun x66 =>
 (unconsO x38.2.h).bind fun x67 =>
 (asObArr true 7 x67.1).bind fun x68 =>
 (arrRows [.arr true 7 x68] 0 x65).bind fun x69 =>
 (C.p (.func 13) [.slice .any x42, .slice .any x69]).bind fun x70 =>
 (asTuple (x70)).bind fun x71 =>
 (uncons x71).bind fun x72 =>
 (asRows (x72.1)).bind fun x73 =>
 (uncons x72.2).bind fun x74 =>
 (asCells (x74.1)).bind fun x75 =>
 (uncons x75).bind fun x76 =>
 (asInt .i64 (x76.1)).bind fun x77 =>
 (uncons x76.2).bind fun x78 =>
 (asInt .i64 (x78.1)).bind fun x79 =>
 (isNil x78.2).bind fun x80 =>
 (isNil x74.2).bind fun x81 =>
 (C.p (.func 35) [.agg [.int .i64 x61, .int .i64 x63], .int .i64 0, .int .i64 0]).bind fun x82 =>
 (asBool (x82)).bind fun x83 =>
 cond x83 (
 (C.p (.func 36) [.slice .any x58, .agg [.int .i64 x46, .int .i64 x48, .int .i64 x50, .int .i64 x52, .int .i64 x54, .int .i64 x56]]).bind fun x84 =>
 (asInt .i64 (x84)).bind fun x85 =>
 (C.p (.func 36) [.slice .any x42, .agg [.int .i64 x46, .int .i64 x48, .int .i64 x50, .int .i64 x52, .int .i64 x54, .int .i64 x56]]).bind fun x86 =>
 (asInt .i64 (x86)).bind fun x87 =>
 (C.p (.func 36) [.slice .any x43, .agg [.int .i64 x46, .int .i64 x48, .int .i64 x50, .int .i64 x52, .int .i64 x54, .int .i64 x56]]).bind fun x88 =>
 (asInt .i64 (x88)).bind fun x89 =>
 cond (x85 == (IntKind.wrap .i64 (x87 + x89))) (
 cond (((x73.length : Nat) : Int) == 0) (
 (C.p (.func 35) [.agg [.int .i64 x77, .int .i64 x79], .int .i64 0, .int .i64 0]).bind fun x90 =>
 (asBool (x90)).bind fun x91 =>
 cond x91 (
 (C.p (.func 9) [.slice .any x58]).bind fun x92 =>
 (asBool (x92)).bind fun x93 =>
 cond x93 (
 some (.bool x41, [.arr false 7 x68])) (
 some (.bool false, [.arr false 7 x68]))) (
 some (.bool false, [.arr false 7 x68]))) (
 some (.bool false, [.arr false 7 x68]))) (
 some (.bool false, [.arr false 7 x68]))) (
 some (.bool false, [.arr false 7 x68]))) (
 none)
 | .ret =>
 none) := by kernel_rfl
end Go.Ab
