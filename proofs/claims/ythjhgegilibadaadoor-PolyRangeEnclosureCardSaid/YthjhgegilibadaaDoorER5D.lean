/- What one call of each function does, written out: by evaluation; conditions: none. -/
import Derived.KernelRfl
import Derived.Test.YthjhgegilibadaaDoorT
namespace Go.Ab
set_option linter.unusedVariables false
set_option linter.unusedSimpArgs false
set_option linter.unusedVariables false
set_option maxHeartbeats 2000000
set_option maxRecDepth 100000
def S5_5 (p0 : Int) (p1 : Bool) (p2 : List (List V)) (p3 : Int) (p4 : Int) (p5 : Int) (p6 : Int) (p7 : Int) (p8 : Int) (p9 : Nat) (p10 : Int) (p11 : List (List V)) : St := ⟨(sp 0 104 [(2, .int .u16 p0), (7, .bool p1), (8, .slice .any p2), (10, .box [.int .i64 p3, .int .i64 p4, .int .i64 p5, .int .i64 p6, .int .i64 p7, .int .i64 p8]), (11, .arr 0 p9 2), (12, .int .i64 p10)]), [.arr true 2 p11]⟩
theorem e5_5 (C : CallT) (r0 : List (List V)) (n1 : Int) (b2 : Bool) (r3 : List (List V)) (n4 : Int) (n5 : Int) (n6 : Int) (n7 : Int) (n8 : Int) (n9 : Int) (n10 : Int) : roundK GD LD C 5 none 5 (S5_5 n1 b2 r3 n4 n5 n6 n7 n8 n9 r0.length n10 r0) =
 cond (decide (n10 < 6)) (
 cond (decide (0 ≤ n10)) (
 cond (decide (n10.toNat < 6)) (
 (nthI [n4, n5, n6, n7, n8, n9] (n10.toNat * 1)).bind fun x0 =>
 cond (decide (r0.length = r0.length)) (
 cond (decide (((r0.length + 1) * 16) ≤ room)) (
 some (.normal, (S5_5 n1 b2 r3 n4 n5 n6 n7 n8 n9 (r0.length + 1) (IntKind.wrap .i64 (n10 + 1)) (List.append r0 [[.int .i64 (IntKind.wrap .i64 ((IntKind.wrap .i64 (x0 * 32768)) - (Int.tmod (IntKind.wrap .i64 n1) 4096))), .int .i64 (IntKind.wrap .i64 ((IntKind.wrap .i64 (x0 * 32768)) + (IntKind.wrap .i64 (Int.tdiv (IntKind.wrap .i64 n1) 3))))]])))) (
 none)) (
 none)) (
 none)) (
 none)) (
 some ((.exit 0), (S5_5 n1 b2 r3 n4 n5 n6 n7 n8 n9 r0.length n10 r0))) := by kernel_rfl
theorem e5 (C : CallT) (r0 : List (List V)) (r1 : List (List V)) (n2 : Int) (n3 : Int) (n4 : Int) (n5 : Int) (n6 : Int) (n7 : Int) (n8 : Int) (n9 : Int) (n10 : Int) : run1 GD LD C (.func 5) [.agg [.slice .any r0, .slice .any r1, .int .i64 n2, .int .i8 n3], .agg [.int .i8 n4, .int .i8 n5, .int .i8 n6, .int .i8 n7, .int .i8 n8, .int .i8 n9], .int .u16 n10] [] =
 (C.p (.func 8) []).bind fun x0 =>
 (asBool (x0)).bind fun x1 =>
 (C.p (.func 37) [.agg [.slice .any r0, .slice .any r1, .int .i64 n2, .int .i8 n3]]).bind fun x2 =>
 (asTuple (x2)).bind fun x3 =>
 (uncons x3).bind fun x4 =>
 (asRows (x4.1)).bind fun x5 =>
 (uncons x4.2).bind fun x6 =>
 (asRows (x6.1)).bind fun x7 =>
 (isNil x6.2).bind fun x8 =>
 (C.p (.func 33) [.agg [.int .i8 n4, .int .i8 n5, .int .i8 n6, .int .i8 n7, .int .i8 n8, .int .i8 n9]]).bind fun x9 =>
 (asCells (x9)).bind fun x10 =>
 (uncons x10).bind fun x11 =>
 (asInt .i64 (x11.1)).bind fun x12 =>
 (uncons x11.2).bind fun x13 =>
 (asInt .i64 (x13.1)).bind fun x14 =>
 (uncons x13.2).bind fun x15 =>
 (asInt .i64 (x15.1)).bind fun x16 =>
 (uncons x15.2).bind fun x17 =>
 (asInt .i64 (x17.1)).bind fun x18 =>
 (uncons x17.2).bind fun x19 =>
 (asInt .i64 (x19.1)).bind fun x20 =>
 (uncons x19.2).bind fun x21 =>
 (asInt .i64 (x21.1)).bind fun x22 =>
 (isNil x21.2).bind fun x23 =>
 (C.w (roundK GD LD C 5 none 5) (S5_5 n10 x1 x5 x12 x14 x16 x18 x20 x22 0 0 [])).bind fun x24 =>
 match x24.1 with
 | .normal =>
 none
 | .exit x26 =>
 cond (Nat.beq x26 0) (
 (asInt .u16 ((nth x24.2.t 2))).bind fun x27 =>
 (asBool ((nth x24.2.t 7))).bind fun x28 =>
 (asRows ((nth x24.2.t 8))).bind fun x29 =>
 (asBox ((nth x24.2.t 10))).bind fun x30 =>
 (uncons x30).bind fun x31 =>
 (asInt .i64 (x31.1)).bind fun x32 =>
 (uncons x31.2).bind fun x33 =>
 (asInt .i64 (x33.1)).bind fun x34 =>
 (uncons x33.2).bind fun x35 =>
 (asInt .i64 (x35.1)).bind fun x36 =>
 (uncons x35.2).bind fun x37 =>
 (asInt .i64 (x37.1)).bind fun x38 =>
 (uncons x37.2).bind fun x39 =>
 (asInt .i64 (x39.1)).bind fun x40 =>
 (uncons x39.2).bind fun x41 =>
 (asInt .i64 (x41.1)).bind fun x42 =>
 (isNil x41.2).bind fun x43 =>
 (asArr 0 2 ((nth x24.2.t 11))).bind fun x44 =>
 (asInt .i64 ((nth x24.2.t 12))).bind fun x45 =>
 (unconsO x24.2.h).bind fun x46 =>
 (asObArr true 2 x46.1).bind fun x47 =>
 (C.p (.func 36) [.slice .any x29, .agg [.int .i64 x32, .int .i64 x34, .int .i64 x36, .int .i64 x38, .int .i64 x40, .int .i64 x42]]).bind fun x48 =>
 (asInt .i64 (x48)).bind fun x49 =>
 (C.p (.func 23) [.slice .any x29]).bind fun x50 =>
 (asCells (x50)).bind fun x51 =>
 (uncons x51).bind fun x52 =>
 (asInt .i64 (x52.1)).bind fun x53 =>
 (uncons x52.2).bind fun x54 =>
 (asInt .i64 (x54.1)).bind fun x55 =>
 (isNil x54.2).bind fun x56 =>
 (arrRows [.arr true 2 x47] 0 x44).bind fun x57 =>
 (C.p (.func 25) [.slice .any x29, .slice .any x57]).bind fun x58 =>
 (asCells (x58)).bind fun x59 =>
 (uncons x59).bind fun x60 =>
 (asInt .i64 (x60.1)).bind fun x61 =>
 (uncons x60.2).bind fun x62 =>
 (asInt .i64 (x62.1)).bind fun x63 =>
 (isNil x62.2).bind fun x64 =>
 (C.p (.func 34) [.agg [.int .i64 x53, .int .i64 x55]]).bind fun x65 =>
 (asBool (x65)).bind fun x66 =>
 cond (!x66) (
 cond (decide (x49 < (IntKind.wrap .i64 (4096 * x53)))) (
 some (.bool false, [.arr false 2 x47])) (
 cond (decide (x49 > (IntKind.wrap .i64 (4096 * x55)))) (
 some (.bool false, [.arr false 2 x47])) (
 (C.p (.func 34) [.agg [.int .i64 x61, .int .i64 x63]]).bind fun x87 =>
 (asBool (x87)).bind fun x88 =>
 cond (!x88) (
 cond (decide (x49 < (IntKind.wrap .i64 (4096 * x61)))) (
 some (.bool false, [.arr false 2 x47])) (
 cond (decide (x49 > (IntKind.wrap .i64 (4096 * x63)))) (
 some (.bool false, [.arr false 2 x47])) (
 cond (((x29.length : Nat) : Int) != 1) (
 some (.bool x28, [.arr false 2 x47])) (
 (C.p (.func 25) [.slice .any x29, .slice .any []]).bind fun x98 =>
 (asCells (x98)).bind fun x99 =>
 (uncons x99).bind fun x100 =>
 (asInt .i64 (x100.1)).bind fun x101 =>
 (uncons x100.2).bind fun x102 =>
 (asInt .i64 (x102.1)).bind fun x103 =>
 (isNil x102.2).bind fun x104 =>
 (C.p (.func 22) [.agg [.int .i64 x101, .int .i64 x103], .agg [.int .i64 x53, .int .i64 x55]]).bind fun x105 =>
 (asBool (x105)).bind fun x106 =>
 cond x106 (
 some (.bool x28, [.arr false 2 x47])) (
 some (.bool false, [.arr false 2 x47])))))) (
 cond (((x29.length : Nat) : Int) != 1) (
 some (.bool x28, [.arr false 2 x47])) (
 (C.p (.func 25) [.slice .any x29, .slice .any []]).bind fun x89 =>
 (asCells (x89)).bind fun x90 =>
 (uncons x90).bind fun x91 =>
 (asInt .i64 (x91.1)).bind fun x92 =>
 (uncons x91.2).bind fun x93 =>
 (asInt .i64 (x93.1)).bind fun x94 =>
 (isNil x93.2).bind fun x95 =>
 (C.p (.func 22) [.agg [.int .i64 x92, .int .i64 x94], .agg [.int .i64 x53, .int .i64 x55]]).bind fun x96 =>
 (asBool (x96)).bind fun x97 =>
 cond x97 (
 some (.bool x28, [.arr false 2 x47])) (
 some (.bool false, [.arr false 2 x47]))))))) (
 (C.p (.func 34) [.agg [.int .i64 x61, .int .i64 x63]]).bind fun x67 =>
 (asBool (x67)).bind fun x68 =>
 cond (!x68) (
 cond (decide (x49 < (IntKind.wrap .i64 (4096 * x61)))) (
 some (.bool false, [.arr false 2 x47])) (
 cond (decide (x49 > (IntKind.wrap .i64 (4096 * x63)))) (
 some (.bool false, [.arr false 2 x47])) (
 cond (((x29.length : Nat) : Int) != 1) (
 some (.bool x28, [.arr false 2 x47])) (
 (C.p (.func 25) [.slice .any x29, .slice .any []]).bind fun x78 =>
 (asCells (x78)).bind fun x79 =>
 (uncons x79).bind fun x80 =>
 (asInt .i64 (x80.1)).bind fun x81 =>
 (uncons x80.2).bind fun x82 =>
 (asInt .i64 (x82.1)).bind fun x83 =>
 (isNil x82.2).bind fun x84 =>
 (C.p (.func 22) [.agg [.int .i64 x81, .int .i64 x83], .agg [.int .i64 x53, .int .i64 x55]]).bind fun x85 =>
 (asBool (x85)).bind fun x86 =>
 cond x86 (
 some (.bool x28, [.arr false 2 x47])) (
 some (.bool false, [.arr false 2 x47])))))) (
 cond (((x29.length : Nat) : Int) != 1) (
 some (.bool x28, [.arr false 2 x47])) (
 (C.p (.func 25) [.slice .any x29, .slice .any []]).bind fun x69 =>
 (asCells (x69)).bind fun x70 =>
 (uncons x70).bind fun x71 =>
 (asInt .i64 (x71.1)).bind fun x72 =>
 (uncons x71.2).bind fun x73 =>
 (asInt .i64 (x73.1)).bind fun x74 =>
 (isNil x73.2).bind fun x75 =>
 (C.p (.func 22) [.agg [.int .i64 x72, .int .i64 x74], .agg [.int .i64 x53, .int .i64 x55]]).bind fun x76 =>
 (asBool (x76)).bind fun x77 =>
 cond x77 (
 some (.bool x28, [.arr false 2 x47])) (
 some (.bool false, [.arr false 2 x47])))))) (
 none)
 | .ret =>
 none := by kernel_rfl
end Go.Ab
