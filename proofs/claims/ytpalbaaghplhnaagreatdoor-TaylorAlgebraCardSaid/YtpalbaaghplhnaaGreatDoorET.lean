/- What one call of each function does, written out: by evaluation; conditions: none. -/
import Derived.KernelRfl
import Derived.Test.YtpalbaaghplhnaaGreatDoorT
set_option linter.unusedVariables false
set_option linter.unusedSimpArgs false
namespace Go.Ab
set_option maxHeartbeats 2000000
set_option maxRecDepth 100000
theorem e73 (C : CallT) (n0 : Int) (n1 : Int) : zO GZ LZ C (.func 73) [.agg [.int .i64 n0, .int .i64 n1]] [] =
 some (.int .i64 (Int.fdiv (IntKind.wrap .i64 (n0 + n1)) 2), []) := by kernel_rfl
theorem e61 (C : CallT) (n0 : Int) (n1 : Int) : zO GZ LZ C (.func 61) [.agg [.int .i64 n0, .int .i64 n1]] [] =
 some (.agg [.int .i64 (IntKind.wrap .i64 (0 - n1)), .int .i64 (IntKind.wrap .i64 (0 - n0))], []) := by kernel_rfl
theorem e76 (C : CallT) (n0 : Int) (n1 : Int) : zO GZ LZ C (.func 76) [.agg [.int .i64 n0, .int .i64 n1]] [] =
 (C.p (.func 103) [.int .i64 (IntKind.wrap .i64 (n0 + n1)), .int .i64 2]).bind fun x0 =>
 (asInt .i64 (x0)).bind fun x1 =>
 some (.int .i64 x1, []) := by kernel_rfl
theorem e11 (C : CallT) (r0 : List (List V)) (n1 : Int) (n2 : Int) (r3 : List (List V)) (n4 : Int) (n5 : Int) (r6 : List (List V)) (n7 : Int) (n8 : Int) : zO GZ LZ C (.func 11) [.agg [.slice .any r0, .int .i64 n1, .int .i64 n2, .slice .any r3, .int .i64 n4, .int .i64 n5, .slice .any r6, .int .u16 n7, .int .u16 n8]] [] =
 (C.p (.func 30) [.agg [.slice .any r0, .int .i64 n1, .int .i64 n2]]).bind fun x0 =>
 (zi (x0)).bind fun x1 =>
 (zg x1).bind fun x2 =>
 (zl (x2.1)).bind fun x3 =>
 (zg x2.2).bind fun x4 =>
 (asInt .i64 (x4.1)).bind fun x5 =>
 (zg x4.2).bind fun x6 =>
 (asInt .i64 (x6.1)).bind fun x7 =>
 (zh x6.2).bind fun x8 =>
 (C.p (.func 30) [.agg [.slice .any r3, .int .i64 n4, .int .i64 n5]]).bind fun x9 =>
 (zi (x9)).bind fun x10 =>
 (zg x10).bind fun x11 =>
 (zl (x11.1)).bind fun x12 =>
 (zg x11.2).bind fun x13 =>
 (asInt .i64 (x13.1)).bind fun x14 =>
 (zg x13.2).bind fun x15 =>
 (asInt .i64 (x15.1)).bind fun x16 =>
 (zh x15.2).bind fun x17 =>
 some (.tuple [.agg [.slice .any x3, .int .i64 x5, .int .i64 x7], .agg [.slice .any x12, .int .i64 x14, .int .i64 x16]], []) := by kernel_rfl
theorem e31 (C : CallT) (n0 : Int) (n1 : Int) : zO GZ LZ C (.func 31) [.agg [.int .i64 n0, .int .i64 n1]] [] =
 some (.agg [.int .i64 (if (Int.tmod n1 65536) < (Int.tmod n0 65536) then (Int.tmod n1 65536) else (Int.tmod n0 65536)), .int .i64 (if (Int.tmod n1 65536) > (Int.tmod n0 65536) then (Int.tmod n1 65536) else (Int.tmod n0 65536))], []) := by kernel_rfl
theorem e42 (C : CallT) (n0 : Int) (n1 : Int) : zO GZ LZ C (.func 42) [.int .i64 n0, .int .i64 n1] [] =
 some (.agg [.int .i64 (IntKind.wrap .i64 (n0 * 65536)), .int .i64 (IntKind.wrap .i64 (n1 * 65536))], []) := by kernel_rfl
theorem e46 (C : CallT) (n0 : Int) (n1 : Int) (n2 : Int) : zO GZ LZ C (.func 46) [.int .i64 n0, .int .u8 n1, .int .u8 n2] [] =
 some (.agg [.int .i64 (IntKind.wrap .i64 (n0 * 65536)), .int .u8 n1, .int .u8 n2, .int .u8 0, .int .u8 0, .int .u8 0, .int .u8 0], []) := by kernel_rfl
theorem e13 (C : CallT) (r0 : List (List V)) (n1 : Int) (n2 : Int) : zO GZ LZ C (.func 13) [.agg [.slice .any r0, .int .i64 n1, .int .i64 n2]] [] =
 (C.p (.func 50) [.slice .any r0]).bind fun x0 =>
 (asBool (x0)).bind fun x1 =>
 cond x1 (
 (C.p (.func 51) [.agg [.int .i64 n1, .int .i64 n2]]).bind fun x2 =>
 (asBool (x2)).bind fun x3 =>
 cond x3 (
 cond (((r0.length : Nat) : Int) == 0) (
 some (.bool true, [])) (
 (C.p (.func 44) [.agg [.int .i64 n1, .int .i64 n2]]).bind fun x4 =>
 (asBool (x4)).bind fun x5 =>
 some (.bool (!x5), []))) (
 some (.bool false, []))) (
 some (.bool false, [])) := by kernel_rfl
theorem e16 (C : CallT) (r0 : List (List V)) (n1 : Int) (n2 : Int) (r3 : List (List V)) (n4 : Int) (n5 : Int) : zO GZ LZ C (.func 16) [.agg [.slice .any r0, .int .i64 n1, .int .i64 n2], .agg [.slice .any r3, .int .i64 n4, .int .i64 n5]] [] =
 (C.p (.func 54) [.slice .any r0, .slice .any r3]).bind fun x0 =>
 (zy (x0)).bind fun x1 =>
 (zg x1).bind fun x2 =>
 (zl (x2.1)).bind fun x3 =>
 (zg x2.2).bind fun x4 =>
 (zi (x4.1)).bind fun x5 =>
 (zg x5).bind fun x6 =>
 (asInt .i64 (x6.1)).bind fun x7 =>
 (zg x6.2).bind fun x8 =>
 (asInt .i64 (x8.1)).bind fun x9 =>
 (zh x8.2).bind fun x10 =>
 (zh x4.2).bind fun x11 =>
 (C.p (.func 55) [.agg [.slice .any x3], .slice .any [[.int .i64 n1, .int .i64 n2], [.int .i64 n4, .int .i64 n5], [.int .i64 x7, .int .i64 x9]]]).bind fun x12 =>
 (zi (x12)).bind fun x13 =>
 (zg x13).bind fun x14 =>
 (zl (x14.1)).bind fun x15 =>
 (zg x14.2).bind fun x16 =>
 (asInt .i64 (x16.1)).bind fun x17 =>
 (zg x16.2).bind fun x18 =>
 (asInt .i64 (x18.1)).bind fun x19 =>
 (zh x18.2).bind fun x20 =>
 some (.agg [.slice .any x15, .int .i64 x17, .int .i64 x19], []) := by kernel_rfl
theorem e18 (C : CallT) (r0 : List (List V)) (n1 : Int) (n2 : Int) (r3 : List (List V)) (n4 : Int) (n5 : Int) : zO GZ LZ C (.func 18) [.agg [.slice .any r0, .int .i64 n1, .int .i64 n2], .agg [.slice .any r3, .int .i64 n4, .int .i64 n5]] [] =
 (C.p (.func 20) [.agg [.slice .any r3, .int .i64 n4, .int .i64 n5]]).bind fun x0 =>
 (zi (x0)).bind fun x1 =>
 (zg x1).bind fun x2 =>
 (zl (x2.1)).bind fun x3 =>
 (zg x2.2).bind fun x4 =>
 (asInt .i64 (x4.1)).bind fun x5 =>
 (zg x4.2).bind fun x6 =>
 (asInt .i64 (x6.1)).bind fun x7 =>
 (zh x6.2).bind fun x8 =>
 (C.p (.func 16) [.agg [.slice .any r0, .int .i64 n1, .int .i64 n2], .agg [.slice .any x3, .int .i64 x5, .int .i64 x7]]).bind fun x9 =>
 (zi (x9)).bind fun x10 =>
 (zg x10).bind fun x11 =>
 (zl (x11.1)).bind fun x12 =>
 (zg x11.2).bind fun x13 =>
 (asInt .i64 (x13.1)).bind fun x14 =>
 (zg x13.2).bind fun x15 =>
 (asInt .i64 (x15.1)).bind fun x16 =>
 (zh x15.2).bind fun x17 =>
 some (.agg [.slice .any x12, .int .i64 x14, .int .i64 x16], []) := by kernel_rfl
def zjv (p0 : List (List V)) (p1 : Int) (p2 : Int) (p3 : List (List V)) (p4 : Int) (p5 : Int) (p6 : Nat) (p7 : Int) (p8 : Int) (p9 : List (List V)) : St := ⟨(sp 0 31 [(1, .box [.slice .any p0, .int .i64 p1, .int .i64 p2]), (2, .box [.slice .any p3, .int .i64 p4, .int .i64 p5]), (3, .arr 0 p6 7), (9, .int .i64 p7), (10, .int .i64 p8)]), [.arr true 7 p9]⟩
theorem e20_3 (C : CallT) (r0 : List (List V)) (r1 : List (List V)) (n2 : Int) (n3 : Int) (r4 : List (List V)) (n5 : Int) (n6 : Int) (n7 : Int) (n8 : Int) : zp GZ LZ C 20 none 3 (zjv r1 n2 n3 r4 n5 n6 r0.length n7 n8 r0) =
 cond (decide (n8 < n7)) (
 cond (decide (0 ≤ n8)) (
 cond (decide (n8.toNat < r0.length)) (
 (zak [.arr true 7 r0] 0 r0.length).bind fun x0 =>
 (zS x0 ((n8.toNat : Nat) : Int) 7).bind fun x1 =>
 (zjb x1 0 1).bind fun x2 =>
 (zg x2).bind fun x3 =>
 (asInt .i64 (x3.1)).bind fun x4 =>
 (zh x3.2).bind fun x5 =>
 cond (decide (0 ≤ n8)) (
 cond (decide (n8.toNat < r0.length)) (
 cond (decide (r0.length = r0.length)) (
 some (.normal, (zjv r1 n2 n3 r4 n5 n6 r0.length n7 (IntKind.wrap .i64 (n8 + 1)) (r0.set n8.toNat (.int .i64 (IntKind.wrap .i64 (0 - x4)) :: (zek 1 (r0.getD n8.toNat []))))))) (
 none)) (
 none)) (
 none)) (
 none)) (
 none)) (
 some ((.exit 0), (zjv r1 n2 n3 r4 n5 n6 r0.length n7 n8 r0))) := by kernel_rfl
theorem e20 (C : CallT) (r0 : List (List V)) (n1 : Int) (n2 : Int) : zO GZ LZ C (.func 20) [.agg [.slice .any r0, .int .i64 n1, .int .i64 n2]] [] =
 (C.s (.func 59) [.slice .any r0] []).bind fun x0 =>
 (zcn 0 7 (x0.1)).bind fun x1 =>
 (zJ x0.2).bind fun x2 =>
 (zaU true 7 x2.1).bind fun x3 =>
 (C.w (zp GZ LZ C 20 none 3) (zjv r0 n1 n2 [] 0 0 x1 ((x1 : Nat) : Int) 0 x3)).bind fun x4 =>
 match x4.1 with
 | .normal =>
 none
 | .exit x6 =>
 cond (Nat.beq x6 0) (
 (zai ((nth x4.2.t 1))).bind fun x7 =>
 (zg x7).bind fun x8 =>
 (zl (x8.1)).bind fun x9 =>
 (zg x8.2).bind fun x10 =>
 (asInt .i64 (x10.1)).bind fun x11 =>
 (zg x10.2).bind fun x12 =>
 (asInt .i64 (x12.1)).bind fun x13 =>
 (zh x12.2).bind fun x14 =>
 (zai ((nth x4.2.t 2))).bind fun x15 =>
 (zg x15).bind fun x16 =>
 (zl (x16.1)).bind fun x17 =>
 (zg x16.2).bind fun x18 =>
 (asInt .i64 (x18.1)).bind fun x19 =>
 (zg x18.2).bind fun x20 =>
 (asInt .i64 (x20.1)).bind fun x21 =>
 (zh x20.2).bind fun x22 =>
 (zcn 0 7 ((nth x4.2.t 3))).bind fun x23 =>
 (asInt .i64 ((nth x4.2.t 9))).bind fun x24 =>
 (asInt .i64 ((nth x4.2.t 10))).bind fun x25 =>
 (zJ x4.2.h).bind fun x26 =>
 (zaU true 7 x26.1).bind fun x27 =>
 (zak [.arr true 7 x27] 0 x23).bind fun x28 =>
 (C.p (.func 60) [.agg [.int .i64 x11, .int .i64 x13]]).bind fun x29 =>
 (zi (x29)).bind fun x30 =>
 (zg x30).bind fun x31 =>
 (asInt .i64 (x31.1)).bind fun x32 =>
 (zg x31.2).bind fun x33 =>
 (asInt .i64 (x33.1)).bind fun x34 =>
 (zh x33.2).bind fun x35 =>
 (C.p (.func 55) [.agg [.slice .any x28], .slice .any [[.int .i64 x32, .int .i64 x34]]]).bind fun x36 =>
 (zi (x36)).bind fun x37 =>
 (zg x37).bind fun x38 =>
 (zl (x38.1)).bind fun x39 =>
 (zg x38.2).bind fun x40 =>
 (asInt .i64 (x40.1)).bind fun x41 =>
 (zg x40.2).bind fun x42 =>
 (asInt .i64 (x42.1)).bind fun x43 =>
 (zh x42.2).bind fun x44 =>
 some (.agg [.slice .any x39, .int .i64 x41, .int .i64 x43], [.arr false 7 x27])) (
 none)
 | .ret =>
 none := by kernel_rfl
theorem e22 (C : CallT) (r0 : List (List V)) (n1 : Int) (n2 : Int) (r3 : List (List V)) (n4 : Int) (n5 : Int) (n6 : Int) : zO GZ LZ C (.func 22) [.agg [.slice .any r0, .int .i64 n1, .int .i64 n2], .agg [.slice .any r3, .int .i64 n4, .int .i64 n5], .int .i64 n6] [] =
 (C.p (.func 44) [.agg [.int .i64 n1, .int .i64 n2]]).bind fun x0 =>
 (asBool (x0)).bind fun x1 =>
 cond x1 (
 (C.p (.func 62) []).bind fun x69 =>
 (zi (x69)).bind fun x70 =>
 (zg x70).bind fun x71 =>
 (zl (x71.1)).bind fun x72 =>
 (zg x71.2).bind fun x73 =>
 (asInt .i64 (x73.1)).bind fun x74 =>
 (zg x73.2).bind fun x75 =>
 (asInt .i64 (x75.1)).bind fun x76 =>
 (zh x75.2).bind fun x77 =>
 some (.agg [.slice .any x72, .int .i64 x74, .int .i64 x76], [])) (
 (C.p (.func 44) [.agg [.int .i64 n4, .int .i64 n5]]).bind fun x2 =>
 (asBool (x2)).bind fun x3 =>
 cond x3 (
 (C.p (.func 62) []).bind fun x60 =>
 (zi (x60)).bind fun x61 =>
 (zg x61).bind fun x62 =>
 (zl (x62.1)).bind fun x63 =>
 (zg x62.2).bind fun x64 =>
 (asInt .i64 (x64.1)).bind fun x65 =>
 (zg x64.2).bind fun x66 =>
 (asInt .i64 (x66.1)).bind fun x67 =>
 (zh x66.2).bind fun x68 =>
 some (.agg [.slice .any x63, .int .i64 x65, .int .i64 x67], [])) (
 (C.p (.func 63) [.slice .any r0, .slice .any r3, .int .i64 n6]).bind fun x4 =>
 (zy (x4)).bind fun x5 =>
 (zg x5).bind fun x6 =>
 (zl (x6.1)).bind fun x7 =>
 (zg x6.2).bind fun x8 =>
 (zi (x8.1)).bind fun x9 =>
 (zg x9).bind fun x10 =>
 (asInt .i64 (x10.1)).bind fun x11 =>
 (zg x10.2).bind fun x12 =>
 (asInt .i64 (x12.1)).bind fun x13 =>
 (zh x12.2).bind fun x14 =>
 (zh x8.2).bind fun x15 =>
 (C.p (.func 65) [.slice .any r0]).bind fun x16 =>
 (zi (x16)).bind fun x17 =>
 (zg x17).bind fun x18 =>
 (asInt .i64 (x18.1)).bind fun x19 =>
 (zg x18.2).bind fun x20 =>
 (asInt .i64 (x20.1)).bind fun x21 =>
 (zh x20.2).bind fun x22 =>
 (C.p (.func 64) [.agg [.int .i64 x19, .int .i64 x21], .agg [.int .i64 n4, .int .i64 n5]]).bind fun x23 =>
 (zi (x23)).bind fun x24 =>
 (zg x24).bind fun x25 =>
 (asInt .i64 (x25.1)).bind fun x26 =>
 (zg x25.2).bind fun x27 =>
 (asInt .i64 (x27.1)).bind fun x28 =>
 (zh x27.2).bind fun x29 =>
 (C.p (.func 65) [.slice .any r3]).bind fun x30 =>
 (zi (x30)).bind fun x31 =>
 (zg x31).bind fun x32 =>
 (asInt .i64 (x32.1)).bind fun x33 =>
 (zg x32.2).bind fun x34 =>
 (asInt .i64 (x34.1)).bind fun x35 =>
 (zh x34.2).bind fun x36 =>
 (C.p (.func 64) [.agg [.int .i64 x33, .int .i64 x35], .agg [.int .i64 n1, .int .i64 n2]]).bind fun x37 =>
 (zi (x37)).bind fun x38 =>
 (zg x38).bind fun x39 =>
 (asInt .i64 (x39.1)).bind fun x40 =>
 (zg x39.2).bind fun x41 =>
 (asInt .i64 (x41.1)).bind fun x42 =>
 (zh x41.2).bind fun x43 =>
 (C.p (.func 64) [.agg [.int .i64 n1, .int .i64 n2], .agg [.int .i64 n4, .int .i64 n5]]).bind fun x44 =>
 (zi (x44)).bind fun x45 =>
 (zg x45).bind fun x46 =>
 (asInt .i64 (x46.1)).bind fun x47 =>
 (zg x46.2).bind fun x48 =>
 (asInt .i64 (x48.1)).bind fun x49 =>
 (zh x48.2).bind fun x50 =>
 (C.p (.func 55) [.agg [.slice .any x7], .slice .any [[.int .i64 x11, .int .i64 x13], [.int .i64 x26, .int .i64 x28], [.int .i64 x40, .int .i64 x42], [.int .i64 x47, .int .i64 x49]]]).bind fun x51 =>
 (zi (x51)).bind fun x52 =>
 (zg x52).bind fun x53 =>
 (zl (x53.1)).bind fun x54 =>
 (zg x53.2).bind fun x55 =>
 (asInt .i64 (x55.1)).bind fun x56 =>
 (zg x55.2).bind fun x57 =>
 (asInt .i64 (x57.1)).bind fun x58 =>
 (zh x57.2).bind fun x59 =>
 some (.agg [.slice .any x54, .int .i64 x56, .int .i64 x58], []))) := by kernel_rfl
theorem e24 (C : CallT) (r0 : List (List V)) (n1 : Int) (n2 : Int) (n3 : Int) (n4 : Int) : zO GZ LZ C (.func 24) [.agg [.slice .any r0, .int .i64 n1, .int .i64 n2], .agg [.int .i64 n3, .int .i64 n4]] [] =
 (C.p (.func 32) [.agg [.int .i64 n3, .int .i64 n4]]).bind fun x0 =>
 (zi (x0)).bind fun x1 =>
 (zg x1).bind fun x2 =>
 (zl (x2.1)).bind fun x3 =>
 (zg x2.2).bind fun x4 =>
 (asInt .i64 (x4.1)).bind fun x5 =>
 (zg x4.2).bind fun x6 =>
 (asInt .i64 (x6.1)).bind fun x7 =>
 (zh x6.2).bind fun x8 =>
 (C.p (.func 22) [.agg [.slice .any r0, .int .i64 n1, .int .i64 n2], .agg [.slice .any x3, .int .i64 x5, .int .i64 x7], .int .i64 6]).bind fun x9 =>
 (zi (x9)).bind fun x10 =>
 (zg x10).bind fun x11 =>
 (zl (x11.1)).bind fun x12 =>
 (zg x11.2).bind fun x13 =>
 (asInt .i64 (x13.1)).bind fun x14 =>
 (zg x13.2).bind fun x15 =>
 (asInt .i64 (x15.1)).bind fun x16 =>
 (zh x15.2).bind fun x17 =>
 some (.agg [.slice .any x12, .int .i64 x14, .int .i64 x16], []) := by kernel_rfl
theorem e26 (C : CallT) (r0 : List (List V)) (n1 : Int) (n2 : Int) (n3 : Int) : zO GZ LZ C (.func 26) [.agg [.slice .any r0, .int .i64 n1, .int .i64 n2], .int .i64 n3] [] =
 (C.p (.func 69) [.slice .any r0, .int .i64 n3]).bind fun x0 =>
 (zy (x0)).bind fun x1 =>
 (zg x1).bind fun x2 =>
 (zl (x2.1)).bind fun x3 =>
 (zg x2.2).bind fun x4 =>
 (zi (x4.1)).bind fun x5 =>
 (zg x5).bind fun x6 =>
 (asInt .i64 (x6.1)).bind fun x7 =>
 (zg x6.2).bind fun x8 =>
 (asInt .i64 (x8.1)).bind fun x9 =>
 (zh x8.2).bind fun x10 =>
 (zh x4.2).bind fun x11 =>
 (C.p (.func 55) [.agg [.slice .any x3], .slice .any [[.int .i64 n1, .int .i64 n2], [.int .i64 x7, .int .i64 x9]]]).bind fun x12 =>
 (zi (x12)).bind fun x13 =>
 (zg x13).bind fun x14 =>
 (zl (x14.1)).bind fun x15 =>
 (zg x14.2).bind fun x16 =>
 (asInt .i64 (x16.1)).bind fun x17 =>
 (zg x16.2).bind fun x18 =>
 (asInt .i64 (x18.1)).bind fun x19 =>
 (zh x18.2).bind fun x20 =>
 some (.agg [.slice .any x15, .int .i64 x17, .int .i64 x19], []) := by kernel_rfl
theorem e28 (C : CallT) (r0 : List (List V)) (n1 : Int) (n2 : Int) : zO GZ LZ C (.func 28) [.agg [.slice .any r0, .int .i64 n1, .int .i64 n2]] [] =
 (C.p (.func 65) [.slice .any r0]).bind fun x0 =>
 (zi (x0)).bind fun x1 =>
 (zg x1).bind fun x2 =>
 (asInt .i64 (x2.1)).bind fun x3 =>
 (zg x2.2).bind fun x4 =>
 (asInt .i64 (x4.1)).bind fun x5 =>
 (zh x4.2).bind fun x6 =>
 (C.p (.func 71) [.agg [.int .i64 x3, .int .i64 x5], .agg [.int .i64 n1, .int .i64 n2]]).bind fun x7 =>
 (zi (x7)).bind fun x8 =>
 (zg x8).bind fun x9 =>
 (asInt .i64 (x9.1)).bind fun x10 =>
 (zg x9.2).bind fun x11 =>
 (asInt .i64 (x11.1)).bind fun x12 =>
 (zh x11.2).bind fun x13 =>
 some (.agg [.int .i64 x10, .int .i64 x12], []) := by kernel_rfl
theorem e32 (C : CallT) (n0 : Int) (n1 : Int) : zO GZ LZ C (.func 32) [.agg [.int .i64 n0, .int .i64 n1]] [] =
 (C.p (.func 44) [.agg [.int .i64 n0, .int .i64 n1]]).bind fun x0 =>
 (asBool (x0)).bind fun x1 =>
 cond x1 (
 (C.p (.func 62) []).bind fun x22 =>
 (zi (x22)).bind fun x23 =>
 (zg x23).bind fun x24 =>
 (zl (x24.1)).bind fun x25 =>
 (zg x24.2).bind fun x26 =>
 (asInt .i64 (x26.1)).bind fun x27 =>
 (zg x26.2).bind fun x28 =>
 (asInt .i64 (x28.1)).bind fun x29 =>
 (zh x28.2).bind fun x30 =>
 some (.agg [.slice .any x25, .int .i64 x27, .int .i64 x29], [])) (
 (C.p (.func 73) [.agg [.int .i64 n0, .int .i64 n1]]).bind fun x2 =>
 (asInt .i64 (x2)).bind fun x3 =>
 (C.p (.func 74) [.int .i64 x3]).bind fun x4 =>
 (zl (x4)).bind fun x5 =>
 (C.p (.func 75) [.int .i64 (IntKind.wrap .i64 (n0 - x3)), .int .i64 (IntKind.wrap .i64 (n1 - x3))]).bind fun x6 =>
 (zi (x6)).bind fun x7 =>
 (zg x7).bind fun x8 =>
 (asInt .i64 (x8.1)).bind fun x9 =>
 (zg x8.2).bind fun x10 =>
 (asInt .i64 (x10.1)).bind fun x11 =>
 (zh x10.2).bind fun x12 =>
 (C.p (.func 55) [.agg [.slice .any x5], .slice .any [[.int .i64 x9, .int .i64 x11]]]).bind fun x13 =>
 (zi (x13)).bind fun x14 =>
 (zg x14).bind fun x15 =>
 (zl (x15.1)).bind fun x16 =>
 (zg x15.2).bind fun x17 =>
 (asInt .i64 (x17.1)).bind fun x18 =>
 (zg x17.2).bind fun x19 =>
 (asInt .i64 (x19.1)).bind fun x20 =>
 (zh x19.2).bind fun x21 =>
 some (.agg [.slice .any x16, .int .i64 x18, .int .i64 x20], [])) := by kernel_rfl
theorem e34 (C : CallT) (n0 : Int) (n1 : Int) (n2 : Int) : zO GZ LZ C (.func 34) [.int .i64 n0, .agg [.int .i64 n1, .int .i64 n2]] [] =
 (C.p (.func 73) [.agg [.int .i64 n1, .int .i64 n2]]).bind fun x0 =>
 (asInt .i64 (x0)).bind fun x1 =>
 (C.p (.func 44) [.agg [.int .i64 n1, .int .i64 n2]]).bind fun x2 =>
 (asBool (x2)).bind fun x3 =>
 cond x3 (
 (C.p (.func 62) []).bind fun x50 =>
 (zi (x50)).bind fun x51 =>
 (zg x51).bind fun x52 =>
 (zl (x52.1)).bind fun x53 =>
 (zg x52.2).bind fun x54 =>
 (asInt .i64 (x54.1)).bind fun x55 =>
 (zg x54.2).bind fun x56 =>
 (asInt .i64 (x56.1)).bind fun x57 =>
 (zh x56.2).bind fun x58 =>
 some (.agg [.slice .any x53, .int .i64 x55, .int .i64 x57], [])) (
 cond (decide ((IntKind.wrap .i64 (n2 - x1)) ≥ 2147483648)) (
 (C.p (.func 62) []).bind fun x41 =>
 (zi (x41)).bind fun x42 =>
 (zg x42).bind fun x43 =>
 (zl (x43.1)).bind fun x44 =>
 (zg x43.2).bind fun x45 =>
 (asInt .i64 (x45.1)).bind fun x46 =>
 (zg x45.2).bind fun x47 =>
 (asInt .i64 (x47.1)).bind fun x48 =>
 (zh x47.2).bind fun x49 =>
 some (.agg [.slice .any x44, .int .i64 x46, .int .i64 x48], [])) (
 (C.p (.func 80) [.int .i64 n0]).bind fun x4 =>
 (zl (x4)).bind fun x5 =>
 (C.p (.func 79) [.slice .any x5, .int .i64 (IntKind.wrap .i64 (n2 - x1))]).bind fun x6 =>
 (zy (x6)).bind fun x7 =>
 (zg x7).bind fun x8 =>
 (zl (x8.1)).bind fun x9 =>
 (zg x8.2).bind fun x10 =>
 (zi (x10.1)).bind fun x11 =>
 (zg x11).bind fun x12 =>
 (asInt .i64 (x12.1)).bind fun x13 =>
 (zg x12.2).bind fun x14 =>
 (asInt .i64 (x14.1)).bind fun x15 =>
 (zh x14.2).bind fun x16 =>
 (zh x10.2).bind fun x17 =>
 (C.p (.func 74) [.int .i64 x1]).bind fun x18 =>
 (zl (x18)).bind fun x19 =>
 (C.p (.func 54) [.slice .any x19, .slice .any x9]).bind fun x20 =>
 (zy (x20)).bind fun x21 =>
 (zg x21).bind fun x22 =>
 (zl (x22.1)).bind fun x23 =>
 (zg x22.2).bind fun x24 =>
 (zi (x24.1)).bind fun x25 =>
 (zg x25).bind fun x26 =>
 (asInt .i64 (x26.1)).bind fun x27 =>
 (zg x26.2).bind fun x28 =>
 (asInt .i64 (x28.1)).bind fun x29 =>
 (zh x28.2).bind fun x30 =>
 (zh x24.2).bind fun x31 =>
 (C.p (.func 55) [.agg [.slice .any x23], .slice .any [[.int .i64 x13, .int .i64 x15], [.int .i64 x27, .int .i64 x29]]]).bind fun x32 =>
 (zi (x32)).bind fun x33 =>
 (zg x33).bind fun x34 =>
 (zl (x34.1)).bind fun x35 =>
 (zg x34.2).bind fun x36 =>
 (asInt .i64 (x36.1)).bind fun x37 =>
 (zg x36.2).bind fun x38 =>
 (asInt .i64 (x38.1)).bind fun x39 =>
 (zh x38.2).bind fun x40 =>
 some (.agg [.slice .any x35, .int .i64 x37, .int .i64 x39], []))) := by kernel_rfl
theorem e36 (C : CallT) (r0 : List (List V)) (n1 : Int) (n2 : Int) (r3 : List (List V)) : zO GZ LZ C (.func 36) [.agg [.slice .any r0, .int .i64 n1, .int .i64 n2], .slice .any r3] [] =
 (C.p (.func 83) [.slice .any r0, .slice .any r3]).bind fun x0 =>
 (zi (x0)).bind fun x1 =>
 (zg x1).bind fun x2 =>
 (asInt .i64 (x2.1)).bind fun x3 =>
 (zg x2.2).bind fun x4 =>
 (asInt .i64 (x4.1)).bind fun x5 =>
 (zh x4.2).bind fun x6 =>
 (C.p (.func 71) [.agg [.int .i64 x3, .int .i64 x5], .agg [.int .i64 n1, .int .i64 n2]]).bind fun x7 =>
 (zi (x7)).bind fun x8 =>
 (zg x8).bind fun x9 =>
 (asInt .i64 (x9.1)).bind fun x10 =>
 (zg x9.2).bind fun x11 =>
 (asInt .i64 (x11.1)).bind fun x12 =>
 (zh x11.2).bind fun x13 =>
 some (.agg [.int .i64 x10, .int .i64 x12], []) := by kernel_rfl
def zgV (p0 : List (List V)) (p1 : List (List V)) (p2 : Int) (p3 : Int) (p4 : Int) (p5 : Int) (p6 : List (List V)) (p7 : Int) (p8 : Int) : St := ⟨(sp 0 30 [(2, .box [.slice .any p0]), (4, .box [.slice .any p1, .int .i64 p2, .int .i64 p3]), (5, .box [.int .i64 p4, .int .i64 p5]), (12, .slice .any p6), (13, .int .i64 p7), (14, .int .i64 p8)]), []⟩
theorem e55_3 (C : CallT) (r0 : List (List V)) (r1 : List (List V)) (n2 : Int) (n3 : Int) (n4 : Int) (n5 : Int) (r6 : List (List V)) (n7 : Int) (n8 : Int) : zp GZ LZ C 55 none 3 (zgV r0 r1 n2 n3 n4 n5 r6 n7 n8) =
 cond (decide (n8 < n7)) (
 (zS r6 n8 2).bind fun x0 =>
 (zg x0).bind fun x1 =>
 (asInt .i64 (x1.1)).bind fun x2 =>
 (zg x1.2).bind fun x3 =>
 (asInt .i64 (x3.1)).bind fun x4 =>
 (zh x3.2).bind fun x5 =>
 (C.p (.func 71) [.agg [.int .i64 n4, .int .i64 n5], .agg [.int .i64 x2, .int .i64 x4]]).bind fun x6 =>
 (zi (x6)).bind fun x7 =>
 (zg x7).bind fun x8 =>
 (asInt .i64 (x8.1)).bind fun x9 =>
 (zg x8.2).bind fun x10 =>
 (asInt .i64 (x10.1)).bind fun x11 =>
 (zh x10.2).bind fun x12 =>
 some (.normal, (zgV r0 r1 n2 n3 x9 x11 r6 n7 (IntKind.wrap .i64 (n8 + 1))))) (
 some ((.exit 0), (zgV r0 r1 n2 n3 n4 n5 r6 n7 n8))) := by kernel_rfl
theorem e55 (C : CallT) (r0 : List (List V)) (r1 : List (List V)) : zO GZ LZ C (.func 55) [.agg [.slice .any r0], .slice .any r1] [] =
 (zS r1 0 2).bind fun x0 =>
 (zg x0).bind fun x1 =>
 (asInt .i64 (x1.1)).bind fun x2 =>
 (zg x1.2).bind fun x3 =>
 (asInt .i64 (x3.1)).bind fun x4 =>
 (zh x3.2).bind fun x5 =>
 cond (decide (1 ≤ r1.length)) (
 cond (zaN 2 r1) (
 (C.w (zp GZ LZ C 55 none 3) (zgV r0 [] 0 0 x2 x4 ((r1.take r1.length).drop 1) ((((r1.take r1.length).drop 1).length : Nat) : Int) 0)).bind fun x6 =>
 match x6.1 with
 | .normal =>
 none
 | .exit x8 =>
 cond (Nat.beq x8 0) (
 (zai ((nth x6.2.t 2))).bind fun x9 =>
 (zg x9).bind fun x10 =>
 (zl (x10.1)).bind fun x11 =>
 (zh x10.2).bind fun x12 =>
 (zai ((nth x6.2.t 4))).bind fun x13 =>
 (zg x13).bind fun x14 =>
 (zl (x14.1)).bind fun x15 =>
 (zg x14.2).bind fun x16 =>
 (asInt .i64 (x16.1)).bind fun x17 =>
 (zg x16.2).bind fun x18 =>
 (asInt .i64 (x18.1)).bind fun x19 =>
 (zh x18.2).bind fun x20 =>
 (zai ((nth x6.2.t 5))).bind fun x21 =>
 (zg x21).bind fun x22 =>
 (asInt .i64 (x22.1)).bind fun x23 =>
 (zg x22.2).bind fun x24 =>
 (asInt .i64 (x24.1)).bind fun x25 =>
 (zh x24.2).bind fun x26 =>
 (zl ((nth x6.2.t 12))).bind fun x27 =>
 (asInt .i64 ((nth x6.2.t 13))).bind fun x28 =>
 (asInt .i64 ((nth x6.2.t 14))).bind fun x29 =>
 (C.p (.func 44) [.agg [.int .i64 x23, .int .i64 x25]]).bind fun x30 =>
 (asBool (x30)).bind fun x31 =>
 cond x31 (
 some (.agg [.slice .any [], .int .i64 x23, .int .i64 x25], [])) (
 some (.agg [.slice .any x11, .int .i64 x23, .int .i64 x25], []))) (
 none)
 | .ret =>
 none) (
 none)) (
 none) := by kernel_rfl
theorem e62 (C : CallT)  : zO GZ LZ C (.func 62) [] [] =
 (C.p (.func 87) []).bind fun x0 =>
 (zi (x0)).bind fun x1 =>
 (zg x1).bind fun x2 =>
 (asInt .i64 (x2.1)).bind fun x3 =>
 (zg x2.2).bind fun x4 =>
 (asInt .i64 (x4.1)).bind fun x5 =>
 (zh x4.2).bind fun x6 =>
 some (.agg [.slice .any [], .int .i64 x3, .int .i64 x5], []) := by kernel_rfl
theorem e14 (C : CallT) (r0 : List (List V)) (n1 : Int) (n2 : Int) : zO GZ LZ C (.func 14) [.agg [.slice .any r0, .int .i64 n1, .int .i64 n2]] [] =
 (C.p (.func 52) [.slice .any r0]).bind fun x0 =>
 (asBool (x0)).bind fun x1 =>
 cond x1 (
 (C.p (.func 47) [.agg [.int .i64 n1, .int .i64 n2]]).bind fun x2 =>
 (asBool (x2)).bind fun x3 =>
 cond x3 (
 cond (((r0.length : Nat) : Int) == 0) (
 some (.bool true, [])) (
 (C.p (.func 38) [.agg [.int .i64 n1, .int .i64 n2]]).bind fun x4 =>
 (asBool (x4)).bind fun x5 =>
 some (.bool (!x5), []))) (
 some (.bool false, []))) (
 some (.bool false, [])) := by kernel_rfl
theorem e15 (C : CallT) (r0 : List (List V)) (n1 : Int) (n2 : Int) (r3 : List (List V)) (n4 : Int) (n5 : Int) : zO GZ LZ C (.func 15) [.agg [.slice .any r0, .int .i64 n1, .int .i64 n2], .agg [.slice .any r3, .int .i64 n4, .int .i64 n5]] [] =
 cond ((n1 == n4) && ((n2 == n5) && true)) (
 (C.p (.func 53) [.slice .any r0, .slice .any r3]).bind fun x0 =>
 (asBool (x0)).bind fun x1 =>
 some (.bool x1, [])) (
 some (.bool false, [])) := by kernel_rfl
theorem e17 (C : CallT) (r0 : List (List V)) (n1 : Int) (n2 : Int) (r3 : List (List V)) (n4 : Int) (n5 : Int) : zO GZ LZ C (.func 17) [.agg [.slice .any r0, .int .i64 n1, .int .i64 n2], .agg [.slice .any r3, .int .i64 n4, .int .i64 n5]] [] =
 (C.p (.func 56) [.slice .any r0, .slice .any r3]).bind fun x0 =>
 (zy (x0)).bind fun x1 =>
 (zg x1).bind fun x2 =>
 (zl (x2.1)).bind fun x3 =>
 (zg x2.2).bind fun x4 =>
 (zi (x4.1)).bind fun x5 =>
 (zg x5).bind fun x6 =>
 (asInt .i64 (x6.1)).bind fun x7 =>
 (zg x6.2).bind fun x8 =>
 (asInt .i64 (x8.1)).bind fun x9 =>
 (zh x8.2).bind fun x10 =>
 (zh x4.2).bind fun x11 =>
 (C.p (.func 58) [.agg [.int .i64 n1, .int .i64 n2], .agg [.int .i64 n4, .int .i64 n5]]).bind fun x12 =>
 (zi (x12)).bind fun x13 =>
 (zg x13).bind fun x14 =>
 (asInt .i64 (x14.1)).bind fun x15 =>
 (zg x14.2).bind fun x16 =>
 (asInt .i64 (x16.1)).bind fun x17 =>
 (zh x16.2).bind fun x18 =>
 (C.p (.func 58) [.agg [.int .i64 x15, .int .i64 x17], .agg [.int .i64 x7, .int .i64 x9]]).bind fun x19 =>
 (zi (x19)).bind fun x20 =>
 (zg x20).bind fun x21 =>
 (asInt .i64 (x21.1)).bind fun x22 =>
 (zg x21.2).bind fun x23 =>
 (asInt .i64 (x23.1)).bind fun x24 =>
 (zh x23.2).bind fun x25 =>
 (C.p (.func 57) [.slice .any x3, .agg [.int .i64 x22, .int .i64 x24]]).bind fun x26 =>
 (zi (x26)).bind fun x27 =>
 (zg x27).bind fun x28 =>
 (zl (x28.1)).bind fun x29 =>
 (zg x28.2).bind fun x30 =>
 (asInt .i64 (x30.1)).bind fun x31 =>
 (zg x30.2).bind fun x32 =>
 (asInt .i64 (x32.1)).bind fun x33 =>
 (zh x32.2).bind fun x34 =>
 some (.agg [.slice .any x29, .int .i64 x31, .int .i64 x33], []) := by kernel_rfl
theorem e19 (C : CallT) (r0 : List (List V)) (n1 : Int) (n2 : Int) (r3 : List (List V)) (n4 : Int) (n5 : Int) : zO GZ LZ C (.func 19) [.agg [.slice .any r0, .int .i64 n1, .int .i64 n2], .agg [.slice .any r3, .int .i64 n4, .int .i64 n5]] [] =
 (C.p (.func 21) [.agg [.slice .any r3, .int .i64 n4, .int .i64 n5]]).bind fun x0 =>
 (zi (x0)).bind fun x1 =>
 (zg x1).bind fun x2 =>
 (zl (x2.1)).bind fun x3 =>
 (zg x2.2).bind fun x4 =>
 (asInt .i64 (x4.1)).bind fun x5 =>
 (zg x4.2).bind fun x6 =>
 (asInt .i64 (x6.1)).bind fun x7 =>
 (zh x6.2).bind fun x8 =>
 (C.p (.func 17) [.agg [.slice .any r0, .int .i64 n1, .int .i64 n2], .agg [.slice .any x3, .int .i64 x5, .int .i64 x7]]).bind fun x9 =>
 (zi (x9)).bind fun x10 =>
 (zg x10).bind fun x11 =>
 (zl (x11.1)).bind fun x12 =>
 (zg x11.2).bind fun x13 =>
 (asInt .i64 (x13.1)).bind fun x14 =>
 (zg x13.2).bind fun x15 =>
 (asInt .i64 (x15.1)).bind fun x16 =>
 (zh x15.2).bind fun x17 =>
 some (.agg [.slice .any x12, .int .i64 x14, .int .i64 x16], []) := by kernel_rfl
def zh0 (p0 : List (List V)) (p1 : Int) (p2 : Int) (p3 : List (List V)) (p4 : Int) (p5 : Int) (p6 : Nat) (p7 : Int) (p8 : List (List V)) : St := ⟨(sp 0 32 [(1, .box [.slice .any p0, .int .i64 p1, .int .i64 p2]), (2, .box [.slice .any p3, .int .i64 p4, .int .i64 p5]), (3, .arr 0 p6 7), (4, .int .i64 p7)]), [.arr true 7 p8]⟩
theorem e21_3 (C : CallT) (r0 : List (List V)) (r1 : List (List V)) (n2 : Int) (n3 : Int) (r4 : List (List V)) (n5 : Int) (n6 : Int) (n7 : Int) : zp GZ LZ C 21 none 3 (zh0 r1 n2 n3 r4 n5 n6 r0.length n7 r0) =
 cond (decide (n7 < ((r1.length : Nat) : Int))) (
 (zS r1 n7 7).bind fun x0 =>
 (zg x0).bind fun x1 =>
 (asInt .i64 (x1.1)).bind fun x2 =>
 (zg x1.2).bind fun x3 =>
 (asInt .u8 (x3.1)).bind fun x4 =>
 (zg x3.2).bind fun x5 =>
 (asInt .u8 (x5.1)).bind fun x6 =>
 (zg x5.2).bind fun x7 =>
 (asInt .u8 (x7.1)).bind fun x8 =>
 (zg x7.2).bind fun x9 =>
 (asInt .u8 (x9.1)).bind fun x10 =>
 (zg x9.2).bind fun x11 =>
 (asInt .u8 (x11.1)).bind fun x12 =>
 (zg x11.2).bind fun x13 =>
 (asInt .u8 (x13.1)).bind fun x14 =>
 (zh x13.2).bind fun x15 =>
 cond (decide (r0.length = r0.length)) (
 cond (decide (((r0.length + 1) * 16) ≤ zag)) (
 some (.normal, (zh0 r1 n2 n3 r4 n5 n6 (r0.length + 1) (IntKind.wrap .i64 (n7 + 1)) (List.append r0 [[.int .i64 (IntKind.wrap .i64 (0 - x2)), .int .u8 x4, .int .u8 x6, .int .u8 x8, .int .u8 x10, .int .u8 x12, .int .u8 x14]])))) (
 none)) (
 none)) (
 some ((.exit 0), (zh0 r1 n2 n3 r4 n5 n6 r0.length n7 r0))) := by kernel_rfl
theorem e21 (C : CallT) (r0 : List (List V)) (n1 : Int) (n2 : Int) : zO GZ LZ C (.func 21) [.agg [.slice .any r0, .int .i64 n1, .int .i64 n2]] [] =
 (C.w (zp GZ LZ C 21 none 3) (zh0 r0 n1 n2 [] 0 0 0 0 [])).bind fun x0 =>
 match x0.1 with
 | .normal =>
 none
 | .exit x2 =>
 cond (Nat.beq x2 0) (
 (zai ((nth x0.2.t 1))).bind fun x3 =>
 (zg x3).bind fun x4 =>
 (zl (x4.1)).bind fun x5 =>
 (zg x4.2).bind fun x6 =>
 (asInt .i64 (x6.1)).bind fun x7 =>
 (zg x6.2).bind fun x8 =>
 (asInt .i64 (x8.1)).bind fun x9 =>
 (zh x8.2).bind fun x10 =>
 (zai ((nth x0.2.t 2))).bind fun x11 =>
 (zg x11).bind fun x12 =>
 (zl (x12.1)).bind fun x13 =>
 (zg x12.2).bind fun x14 =>
 (asInt .i64 (x14.1)).bind fun x15 =>
 (zg x14.2).bind fun x16 =>
 (asInt .i64 (x16.1)).bind fun x17 =>
 (zh x16.2).bind fun x18 =>
 (zcn 0 7 ((nth x0.2.t 3))).bind fun x19 =>
 (asInt .i64 ((nth x0.2.t 4))).bind fun x20 =>
 (zJ x0.2.h).bind fun x21 =>
 (zaU true 7 x21.1).bind fun x22 =>
 (C.p (.func 61) [.agg [.int .i64 x7, .int .i64 x9]]).bind fun x23 =>
 (zi (x23)).bind fun x24 =>
 (zg x24).bind fun x25 =>
 (asInt .i64 (x25.1)).bind fun x26 =>
 (zg x25.2).bind fun x27 =>
 (asInt .i64 (x27.1)).bind fun x28 =>
 (zh x27.2).bind fun x29 =>
 (zak [.arr true 7 x22] 0 x19).bind fun x30 =>
 (C.p (.func 57) [.slice .any x30, .agg [.int .i64 x26, .int .i64 x28]]).bind fun x31 =>
 (zi (x31)).bind fun x32 =>
 (zg x32).bind fun x33 =>
 (zl (x33.1)).bind fun x34 =>
 (zg x33.2).bind fun x35 =>
 (asInt .i64 (x35.1)).bind fun x36 =>
 (zg x35.2).bind fun x37 =>
 (asInt .i64 (x37.1)).bind fun x38 =>
 (zh x37.2).bind fun x39 =>
 some (.agg [.slice .any x34, .int .i64 x36, .int .i64 x38], [.arr false 7 x22])) (
 none)
 | .ret =>
 none := by kernel_rfl
theorem e23 (C : CallT) (r0 : List (List V)) (n1 : Int) (n2 : Int) (r3 : List (List V)) (n4 : Int) (n5 : Int) (n6 : Int) : zO GZ LZ C (.func 23) [.agg [.slice .any r0, .int .i64 n1, .int .i64 n2], .agg [.slice .any r3, .int .i64 n4, .int .i64 n5], .int .i64 n6] [] =
 (C.p (.func 38) [.agg [.int .i64 n1, .int .i64 n2]]).bind fun x0 =>
 (asBool (x0)).bind fun x1 =>
 cond x1 (
 (C.p (.func 48) []).bind fun x88 =>
 (zi (x88)).bind fun x89 =>
 (zg x89).bind fun x90 =>
 (asInt .i64 (x90.1)).bind fun x91 =>
 (zg x90.2).bind fun x92 =>
 (asInt .i64 (x92.1)).bind fun x93 =>
 (zh x92.2).bind fun x94 =>
 some (.agg [.slice .any [], .int .i64 x91, .int .i64 x93], [])) (
 (C.p (.func 38) [.agg [.int .i64 n4, .int .i64 n5]]).bind fun x2 =>
 (asBool (x2)).bind fun x3 =>
 cond x3 (
 (C.p (.func 48) []).bind fun x81 =>
 (zi (x81)).bind fun x82 =>
 (zg x82).bind fun x83 =>
 (asInt .i64 (x83.1)).bind fun x84 =>
 (zg x83.2).bind fun x85 =>
 (asInt .i64 (x85.1)).bind fun x86 =>
 (zh x85.2).bind fun x87 =>
 some (.agg [.slice .any [], .int .i64 x84, .int .i64 x86], [])) (
 (C.p (.func 66) [.slice .any r0, .slice .any r3, .int .i64 n6]).bind fun x4 =>
 (zy (x4)).bind fun x5 =>
 (zg x5).bind fun x6 =>
 (zl (x6.1)).bind fun x7 =>
 (zg x6.2).bind fun x8 =>
 (zi (x8.1)).bind fun x9 =>
 (zg x9).bind fun x10 =>
 (asInt .i64 (x10.1)).bind fun x11 =>
 (zg x10.2).bind fun x12 =>
 (asInt .i64 (x12.1)).bind fun x13 =>
 (zh x12.2).bind fun x14 =>
 (zh x8.2).bind fun x15 =>
 (C.p (.func 68) [.slice .any r0]).bind fun x16 =>
 (zi (x16)).bind fun x17 =>
 (zg x17).bind fun x18 =>
 (asInt .i64 (x18.1)).bind fun x19 =>
 (zg x18.2).bind fun x20 =>
 (asInt .i64 (x20.1)).bind fun x21 =>
 (zh x20.2).bind fun x22 =>
 (C.p (.func 67) [.agg [.int .i64 x19, .int .i64 x21], .agg [.int .i64 n4, .int .i64 n5]]).bind fun x23 =>
 (zi (x23)).bind fun x24 =>
 (zg x24).bind fun x25 =>
 (asInt .i64 (x25.1)).bind fun x26 =>
 (zg x25.2).bind fun x27 =>
 (asInt .i64 (x27.1)).bind fun x28 =>
 (zh x27.2).bind fun x29 =>
 (C.p (.func 58) [.agg [.int .i64 x11, .int .i64 x13], .agg [.int .i64 x26, .int .i64 x28]]).bind fun x30 =>
 (zi (x30)).bind fun x31 =>
 (zg x31).bind fun x32 =>
 (asInt .i64 (x32.1)).bind fun x33 =>
 (zg x32.2).bind fun x34 =>
 (asInt .i64 (x34.1)).bind fun x35 =>
 (zh x34.2).bind fun x36 =>
 (C.p (.func 68) [.slice .any r3]).bind fun x37 =>
 (zi (x37)).bind fun x38 =>
 (zg x38).bind fun x39 =>
 (asInt .i64 (x39.1)).bind fun x40 =>
 (zg x39.2).bind fun x41 =>
 (asInt .i64 (x41.1)).bind fun x42 =>
 (zh x41.2).bind fun x43 =>
 (C.p (.func 67) [.agg [.int .i64 x40, .int .i64 x42], .agg [.int .i64 n1, .int .i64 n2]]).bind fun x44 =>
 (zi (x44)).bind fun x45 =>
 (zg x45).bind fun x46 =>
 (asInt .i64 (x46.1)).bind fun x47 =>
 (zg x46.2).bind fun x48 =>
 (asInt .i64 (x48.1)).bind fun x49 =>
 (zh x48.2).bind fun x50 =>
 (C.p (.func 58) [.agg [.int .i64 x33, .int .i64 x35], .agg [.int .i64 x47, .int .i64 x49]]).bind fun x51 =>
 (zi (x51)).bind fun x52 =>
 (zg x52).bind fun x53 =>
 (asInt .i64 (x53.1)).bind fun x54 =>
 (zg x53.2).bind fun x55 =>
 (asInt .i64 (x55.1)).bind fun x56 =>
 (zh x55.2).bind fun x57 =>
 (C.p (.func 67) [.agg [.int .i64 n1, .int .i64 n2], .agg [.int .i64 n4, .int .i64 n5]]).bind fun x58 =>
 (zi (x58)).bind fun x59 =>
 (zg x59).bind fun x60 =>
 (asInt .i64 (x60.1)).bind fun x61 =>
 (zg x60.2).bind fun x62 =>
 (asInt .i64 (x62.1)).bind fun x63 =>
 (zh x62.2).bind fun x64 =>
 (C.p (.func 58) [.agg [.int .i64 x54, .int .i64 x56], .agg [.int .i64 x61, .int .i64 x63]]).bind fun x65 =>
 (zi (x65)).bind fun x66 =>
 (zg x66).bind fun x67 =>
 (asInt .i64 (x67.1)).bind fun x68 =>
 (zg x67.2).bind fun x69 =>
 (asInt .i64 (x69.1)).bind fun x70 =>
 (zh x69.2).bind fun x71 =>
 (C.p (.func 57) [.slice .any x7, .agg [.int .i64 x68, .int .i64 x70]]).bind fun x72 =>
 (zi (x72)).bind fun x73 =>
 (zg x73).bind fun x74 =>
 (zl (x74.1)).bind fun x75 =>
 (zg x74.2).bind fun x76 =>
 (asInt .i64 (x76.1)).bind fun x77 =>
 (zg x76.2).bind fun x78 =>
 (asInt .i64 (x78.1)).bind fun x79 =>
 (zh x78.2).bind fun x80 =>
 some (.agg [.slice .any x75, .int .i64 x77, .int .i64 x79], []))) := by kernel_rfl
theorem e25 (C : CallT) (r0 : List (List V)) (n1 : Int) (n2 : Int) (n3 : Int) (n4 : Int) : zO GZ LZ C (.func 25) [.agg [.slice .any r0, .int .i64 n1, .int .i64 n2], .agg [.int .i64 n3, .int .i64 n4]] [] =
 (C.p (.func 33) [.agg [.int .i64 n3, .int .i64 n4]]).bind fun x0 =>
 (zi (x0)).bind fun x1 =>
 (zg x1).bind fun x2 =>
 (zl (x2.1)).bind fun x3 =>
 (zg x2.2).bind fun x4 =>
 (asInt .i64 (x4.1)).bind fun x5 =>
 (zg x4.2).bind fun x6 =>
 (asInt .i64 (x6.1)).bind fun x7 =>
 (zh x6.2).bind fun x8 =>
 (C.p (.func 23) [.agg [.slice .any r0, .int .i64 n1, .int .i64 n2], .agg [.slice .any x3, .int .i64 x5, .int .i64 x7], .int .i64 6]).bind fun x9 =>
 (zi (x9)).bind fun x10 =>
 (zg x10).bind fun x11 =>
 (zl (x11.1)).bind fun x12 =>
 (zg x11.2).bind fun x13 =>
 (asInt .i64 (x13.1)).bind fun x14 =>
 (zg x13.2).bind fun x15 =>
 (asInt .i64 (x15.1)).bind fun x16 =>
 (zh x15.2).bind fun x17 =>
 some (.agg [.slice .any x12, .int .i64 x14, .int .i64 x16], []) := by kernel_rfl
theorem e27 (C : CallT) (r0 : List (List V)) (n1 : Int) (n2 : Int) (n3 : Int) : zO GZ LZ C (.func 27) [.agg [.slice .any r0, .int .i64 n1, .int .i64 n2], .int .i64 n3] [] =
 (C.p (.func 70) [.slice .any r0, .int .i64 n3]).bind fun x0 =>
 (zy (x0)).bind fun x1 =>
 (zg x1).bind fun x2 =>
 (zl (x2.1)).bind fun x3 =>
 (zg x2.2).bind fun x4 =>
 (zi (x4.1)).bind fun x5 =>
 (zg x5).bind fun x6 =>
 (asInt .i64 (x6.1)).bind fun x7 =>
 (zg x6.2).bind fun x8 =>
 (asInt .i64 (x8.1)).bind fun x9 =>
 (zh x8.2).bind fun x10 =>
 (zh x4.2).bind fun x11 =>
 (C.p (.func 58) [.agg [.int .i64 n1, .int .i64 n2], .agg [.int .i64 x7, .int .i64 x9]]).bind fun x12 =>
 (zi (x12)).bind fun x13 =>
 (zg x13).bind fun x14 =>
 (asInt .i64 (x14.1)).bind fun x15 =>
 (zg x14.2).bind fun x16 =>
 (asInt .i64 (x16.1)).bind fun x17 =>
 (zh x16.2).bind fun x18 =>
 (C.p (.func 57) [.slice .any x3, .agg [.int .i64 x15, .int .i64 x17]]).bind fun x19 =>
 (zi (x19)).bind fun x20 =>
 (zg x20).bind fun x21 =>
 (zl (x21.1)).bind fun x22 =>
 (zg x21.2).bind fun x23 =>
 (asInt .i64 (x23.1)).bind fun x24 =>
 (zg x23.2).bind fun x25 =>
 (asInt .i64 (x25.1)).bind fun x26 =>
 (zh x25.2).bind fun x27 =>
 some (.agg [.slice .any x22, .int .i64 x24, .int .i64 x26], []) := by kernel_rfl
theorem e29 (C : CallT) (r0 : List (List V)) (n1 : Int) (n2 : Int) : zO GZ LZ C (.func 29) [.agg [.slice .any r0, .int .i64 n1, .int .i64 n2]] [] =
 (C.p (.func 68) [.slice .any r0]).bind fun x0 =>
 (zi (x0)).bind fun x1 =>
 (zg x1).bind fun x2 =>
 (asInt .i64 (x2.1)).bind fun x3 =>
 (zg x2.2).bind fun x4 =>
 (asInt .i64 (x4.1)).bind fun x5 =>
 (zh x4.2).bind fun x6 =>
 (C.p (.func 58) [.agg [.int .i64 x3, .int .i64 x5], .agg [.int .i64 n1, .int .i64 n2]]).bind fun x7 =>
 (zi (x7)).bind fun x8 =>
 (zg x8).bind fun x9 =>
 (asInt .i64 (x9.1)).bind fun x10 =>
 (zg x9.2).bind fun x11 =>
 (asInt .i64 (x11.1)).bind fun x12 =>
 (zh x11.2).bind fun x13 =>
 some (.agg [.int .i64 x10, .int .i64 x12], []) := by kernel_rfl
theorem e33 (C : CallT) (n0 : Int) (n1 : Int) : zO GZ LZ C (.func 33) [.agg [.int .i64 n0, .int .i64 n1]] [] =
 (C.p (.func 38) [.agg [.int .i64 n0, .int .i64 n1]]).bind fun x0 =>
 (asBool (x0)).bind fun x1 =>
 cond x1 (
 some (.agg [.slice .any [], .int .i64 n0, .int .i64 n1], [])) (
 (C.p (.func 76) [.agg [.int .i64 n0, .int .i64 n1]]).bind fun x2 =>
 (asInt .i64 (x2)).bind fun x3 =>
 (C.p (.func 77) [.int .i64 x3]).bind fun x4 =>
 (zl (x4)).bind fun x5 =>
 (C.p (.func 78) [.int .i64 (IntKind.wrap .i64 (n0 - x3)), .int .i64 (IntKind.wrap .i64 (n1 - x3))]).bind fun x6 =>
 (zi (x6)).bind fun x7 =>
 (zg x7).bind fun x8 =>
 (asInt .i64 (x8.1)).bind fun x9 =>
 (zg x8.2).bind fun x10 =>
 (asInt .i64 (x10.1)).bind fun x11 =>
 (zh x10.2).bind fun x12 =>
 (C.p (.func 57) [.slice .any x5, .agg [.int .i64 x9, .int .i64 x11]]).bind fun x13 =>
 (zi (x13)).bind fun x14 =>
 (zg x14).bind fun x15 =>
 (zl (x15.1)).bind fun x16 =>
 (zg x15.2).bind fun x17 =>
 (asInt .i64 (x17.1)).bind fun x18 =>
 (zg x17.2).bind fun x19 =>
 (asInt .i64 (x19.1)).bind fun x20 =>
 (zh x19.2).bind fun x21 =>
 some (.agg [.slice .any x16, .int .i64 x18, .int .i64 x20], [])) := by kernel_rfl
theorem e35 (C : CallT) (n0 : Int) (n1 : Int) (n2 : Int) : zO GZ LZ C (.func 35) [.int .i64 n0, .agg [.int .i64 n1, .int .i64 n2]] [] =
 (C.p (.func 76) [.agg [.int .i64 n1, .int .i64 n2]]).bind fun x0 =>
 (asInt .i64 (x0)).bind fun x1 =>
 (C.p (.func 38) [.agg [.int .i64 n1, .int .i64 n2]]).bind fun x2 =>
 (asBool (x2)).bind fun x3 =>
 cond x3 (
 (C.p (.func 48) []).bind fun x55 =>
 (zi (x55)).bind fun x56 =>
 (zg x56).bind fun x57 =>
 (asInt .i64 (x57.1)).bind fun x58 =>
 (zg x57.2).bind fun x59 =>
 (asInt .i64 (x59.1)).bind fun x60 =>
 (zh x59.2).bind fun x61 =>
 some (.agg [.slice .any [], .int .i64 x58, .int .i64 x60], [])) (
 cond (decide ((IntKind.wrap .i64 (n2 - x1)) ≥ 2147483648)) (
 (C.p (.func 48) []).bind fun x48 =>
 (zi (x48)).bind fun x49 =>
 (zg x49).bind fun x50 =>
 (asInt .i64 (x50.1)).bind fun x51 =>
 (zg x50.2).bind fun x52 =>
 (asInt .i64 (x52.1)).bind fun x53 =>
 (zh x52.2).bind fun x54 =>
 some (.agg [.slice .any [], .int .i64 x51, .int .i64 x53], [])) (
 (C.p (.func 82) [.int .i64 n0]).bind fun x4 =>
 (zl (x4)).bind fun x5 =>
 (C.p (.func 81) [.slice .any x5, .int .i64 (IntKind.wrap .i64 (n2 - x1))]).bind fun x6 =>
 (zy (x6)).bind fun x7 =>
 (zg x7).bind fun x8 =>
 (zl (x8.1)).bind fun x9 =>
 (zg x8.2).bind fun x10 =>
 (zi (x10.1)).bind fun x11 =>
 (zg x11).bind fun x12 =>
 (asInt .i64 (x12.1)).bind fun x13 =>
 (zg x12.2).bind fun x14 =>
 (asInt .i64 (x14.1)).bind fun x15 =>
 (zh x14.2).bind fun x16 =>
 (zh x10.2).bind fun x17 =>
 (C.p (.func 77) [.int .i64 x1]).bind fun x18 =>
 (zl (x18)).bind fun x19 =>
 (C.p (.func 56) [.slice .any x19, .slice .any x9]).bind fun x20 =>
 (zy (x20)).bind fun x21 =>
 (zg x21).bind fun x22 =>
 (zl (x22.1)).bind fun x23 =>
 (zg x22.2).bind fun x24 =>
 (zi (x24.1)).bind fun x25 =>
 (zg x25).bind fun x26 =>
 (asInt .i64 (x26.1)).bind fun x27 =>
 (zg x26.2).bind fun x28 =>
 (asInt .i64 (x28.1)).bind fun x29 =>
 (zh x28.2).bind fun x30 =>
 (zh x24.2).bind fun x31 =>
 (C.p (.func 58) [.agg [.int .i64 x13, .int .i64 x15], .agg [.int .i64 x27, .int .i64 x29]]).bind fun x32 =>
 (zi (x32)).bind fun x33 =>
 (zg x33).bind fun x34 =>
 (asInt .i64 (x34.1)).bind fun x35 =>
 (zg x34.2).bind fun x36 =>
 (asInt .i64 (x36.1)).bind fun x37 =>
 (zh x36.2).bind fun x38 =>
 (C.p (.func 57) [.slice .any x23, .agg [.int .i64 x35, .int .i64 x37]]).bind fun x39 =>
 (zi (x39)).bind fun x40 =>
 (zg x40).bind fun x41 =>
 (zl (x41.1)).bind fun x42 =>
 (zg x41.2).bind fun x43 =>
 (asInt .i64 (x43.1)).bind fun x44 =>
 (zg x43.2).bind fun x45 =>
 (asInt .i64 (x45.1)).bind fun x46 =>
 (zh x45.2).bind fun x47 =>
 some (.agg [.slice .any x42, .int .i64 x44, .int .i64 x46], []))) := by kernel_rfl
theorem e37 (C : CallT) (r0 : List (List V)) (n1 : Int) (n2 : Int) (r3 : List (List V)) : zO GZ LZ C (.func 37) [.agg [.slice .any r0, .int .i64 n1, .int .i64 n2], .slice .any r3] [] =
 (C.p (.func 84) [.slice .any r0, .slice .any r3]).bind fun x0 =>
 (zi (x0)).bind fun x1 =>
 (zg x1).bind fun x2 =>
 (asInt .i64 (x2.1)).bind fun x3 =>
 (zg x2.2).bind fun x4 =>
 (asInt .i64 (x4.1)).bind fun x5 =>
 (zh x4.2).bind fun x6 =>
 (C.p (.func 58) [.agg [.int .i64 x3, .int .i64 x5], .agg [.int .i64 n1, .int .i64 n2]]).bind fun x7 =>
 (zi (x7)).bind fun x8 =>
 (zg x8).bind fun x9 =>
 (asInt .i64 (x9.1)).bind fun x10 =>
 (zg x9.2).bind fun x11 =>
 (asInt .i64 (x11.1)).bind fun x12 =>
 (zh x11.2).bind fun x13 =>
 some (.agg [.int .i64 x10, .int .i64 x12], []) := by kernel_rfl
theorem e30 (C : CallT) (r0 : List (List V)) (n1 : Int) (n2 : Int) : zO GZ LZ C (.func 30) [.agg [.slice .any r0, .int .i64 n1, .int .i64 n2]] [] =
 (C.p (.func 72) [.slice .any r0, .int .i64 20, .int .i64 16777216]).bind fun x0 =>
 (zl (x0)).bind fun x1 =>
 (C.p (.func 12) [.agg [.int .i64 n1, .int .i64 n2]]).bind fun x2 =>
 (zi (x2)).bind fun x3 =>
 (zg x3).bind fun x4 =>
 (asInt .i64 (x4.1)).bind fun x5 =>
 (zg x4.2).bind fun x6 =>
 (asInt .i64 (x6.1)).bind fun x7 =>
 (zh x6.2).bind fun x8 =>
 (C.p (.func 57) [.slice .any x1, .agg [.int .i64 x5, .int .i64 x7]]).bind fun x9 =>
 (zi (x9)).bind fun x10 =>
 (zg x10).bind fun x11 =>
 (zl (x11.1)).bind fun x12 =>
 (zg x11.2).bind fun x13 =>
 (asInt .i64 (x13.1)).bind fun x14 =>
 (zg x13.2).bind fun x15 =>
 (asInt .i64 (x15.1)).bind fun x16 =>
 (zh x15.2).bind fun x17 =>
 some (.agg [.slice .any x12, .int .i64 x14, .int .i64 x16], []) := by kernel_rfl
theorem e39 (C : CallT) (r0 : List (List V)) (n1 : Int) (n2 : Int) (r3 : List (List V)) (n4 : Int) : zO GZ LZ C (.func 39) [.agg [.slice .any r0, .int .i64 n1, .int .i64 n2], .slice .any r3, .int .u16 n4] [] =
 (C.p (.func 85) [.slice .any r0, .slice .any r3]).bind fun x0 =>
 (asInt .i64 (x0)).bind fun x1 =>
 some (.int .i64 (IntKind.wrap .i64 ((IntKind.wrap .i64 (x1 + n1)) + (IntKind.wrap .i64 (Int.tdiv (IntKind.wrap .i64 ((IntKind.wrap .i64 (n2 - n1)) * (IntKind.wrap .i64 n4))) 65535)))), []) := by kernel_rfl
theorem e41 (C : CallT) (r0 : List (List V)) (n1 : Int) (n2 : Int) (r3 : List (List V)) (n4 : Int) : zO GZ LZ C (.func 41) [.agg [.slice .any r0, .int .i64 n1, .int .i64 n2], .slice .any r3, .int .i64 n4] [] =
 (C.p (.func 85) [.slice .any r0, .slice .any r3]).bind fun x0 =>
 (asInt .i64 (x0)).bind fun x1 =>
 (C.p (.func 38) [.agg [.int .i64 n1, .int .i64 n2]]).bind fun x2 =>
 (asBool (x2)).bind fun x3 =>
 cond x3 (
 some (.bool true, [])) (
 cond (decide ((IntKind.wrap .i64 ((IntKind.wrap .i64 (x1 + n1)) * 65536)) ≤ n4)) (
 some (.bool (decide (n4 ≤ (IntKind.wrap .i64 ((IntKind.wrap .i64 (x1 + n2)) * 65536)))), [])) (
 some (.bool false, []))) := by kernel_rfl
def zjw (p0 : List (List V)) (p1 : List (List V)) (p2 : Int) (p3 : Int) : St := ⟨(sp 0 58 [(0, .slice .any p0), (1, .slice .any p1), (5, .int .i64 p2), (6, .int .i64 p3)]), []⟩
def zjx (p0 : List (List V)) (p1 : List (List V)) (p2 : Int) (p3 : Int) (p4 : Int) (p5 : Int) : St := ⟨(sp 0 58 [(0, .slice .any p0), (1, .slice .any p1), (5, .int .i64 p2), (6, .int .i64 p3), (7, .int .i64 p4), (8, .int .i64 p5)]), []⟩
def zfK (p0 : List (List V)) (p1 : List (List V)) (p2 : Int) (p3 : Int) (p4 : Int) (p5 : Int) (p6 : Int) (p7 : Int) : St := ⟨(sp 0 58 [(0, .slice .any p0), (1, .slice .any p1), (5, .int .i64 p2), (6, .int .i64 p3), (7, .int .i64 p4), (8, .int .i64 p5), (9, .int .i64 p6), (10, .int .u8 p7)]), []⟩
theorem e85_13 (C : CallT) (r0 : List (List V)) (r1 : List (List V)) (n2 : Int) (n3 : Int) (n4 : Int) (n5 : Int) (n6 : Int) (n7 : Int) : zp GZ LZ C 85 none 13 (zfK r0 r1 n2 n3 n4 n5 n6 n7) =
 (zS r0 n3 7).bind fun x0 =>
 (zg x0).bind fun x1 =>
 (asInt .i64 (x1.1)).bind fun x2 =>
 (zg x1.2).bind fun x3 =>
 (asInt .u8 (x3.1)).bind fun x4 =>
 (zg x3.2).bind fun x5 =>
 (asInt .u8 (x5.1)).bind fun x6 =>
 (zg x5.2).bind fun x7 =>
 (asInt .u8 (x7.1)).bind fun x8 =>
 (zg x7.2).bind fun x9 =>
 (asInt .u8 (x9.1)).bind fun x10 =>
 (zg x9.2).bind fun x11 =>
 (asInt .u8 (x11.1)).bind fun x12 =>
 (zg x11.2).bind fun x13 =>
 (asInt .u8 (x13.1)).bind fun x14 =>
 (zh x13.2).bind fun x15 =>
 cond (decide (0 ≤ n5)) (
 cond (decide (n5.toNat < 6)) (
 cond (false || ((true && (Nat.beq (1 + (n5.toNat * 1)) 1)) || ((true && (Nat.beq (1 + (n5.toNat * 1)) 2)) || ((true && (Nat.beq (1 + (n5.toNat * 1)) 3)) || ((true && (Nat.beq (1 + (n5.toNat * 1)) 4)) || ((true && (Nat.beq (1 + (n5.toNat * 1)) 5)) || ((true && (Nat.beq (1 + (n5.toNat * 1)) 6)) || false))))))) (
 (za5 [x2, x4, x6, x8, x10, x12, x14] (1 + (n5.toNat * 1))).bind fun x16 =>
 cond (decide (n7 < x16)) (
 cond (decide (n7 < 8)) (
 some (.normal, (zfK r0 r1 n2 n3 (IntKind.wrap .i64 (n4 * n6)) n5 n6 (IntKind.wrap .u8 (n7 + 1))))) (
 some ((.exit 4), (zfK r0 r1 n2 n3 n4 n5 n6 n7)))) (
 some ((.exit 4), (zfK r0 r1 n2 n3 n4 n5 n6 n7)))) (
 none)) (
 none)) (
 none) := by kernel_rfl
theorem e85_7 (C : CallT) (r0 : List (List V)) (r1 : List (List V)) (n2 : Int) (n3 : Int) (n4 : Int) (n5 : Int) : zp GZ LZ C 85 none 7 (zjx r0 r1 n2 n3 n4 n5) =
 cond (decide (n5 < 6)) (
 cond (decide (n5 < ((r1.length : Nat) : Int))) (
 (zS r1 n5 1).bind fun x11 =>
 (zg x11).bind fun x12 =>
 (asInt .i8 (x12.1)).bind fun x13 =>
 (zh x12.2).bind fun x14 =>
 (C.w (zp GZ LZ C 85 none 13) (zfK r0 r1 n2 n3 n4 n5 (Int.tmod (IntKind.wrap .i64 x13) 2) 0)).bind fun x15 =>
 match x15.1 with
 | .normal =>
 none
 | .exit x17 =>
 cond (Nat.beq x17 4) (
 (zl ((nth x15.2.t 0))).bind fun x18 =>
 (zl ((nth x15.2.t 1))).bind fun x19 =>
 (asInt .i64 ((nth x15.2.t 5))).bind fun x20 =>
 (asInt .i64 ((nth x15.2.t 6))).bind fun x21 =>
 (asInt .i64 ((nth x15.2.t 7))).bind fun x22 =>
 (asInt .i64 ((nth x15.2.t 8))).bind fun x23 =>
 (asInt .i64 ((nth x15.2.t 9))).bind fun x24 =>
 (asInt .u8 ((nth x15.2.t 10))).bind fun x25 =>
 some (.normal, (zjx x18 x19 x20 x21 x22 (IntKind.wrap .i64 (x23 + 1))))) (
 none)
 | .ret =>
 none) (
 (C.w (zp GZ LZ C 85 none 13) (zfK r0 r1 n2 n3 n4 n5 0 0)).bind fun x0 =>
 match x0.1 with
 | .normal =>
 none
 | .exit x2 =>
 cond (Nat.beq x2 4) (
 (zl ((nth x0.2.t 0))).bind fun x3 =>
 (zl ((nth x0.2.t 1))).bind fun x4 =>
 (asInt .i64 ((nth x0.2.t 5))).bind fun x5 =>
 (asInt .i64 ((nth x0.2.t 6))).bind fun x6 =>
 (asInt .i64 ((nth x0.2.t 7))).bind fun x7 =>
 (asInt .i64 ((nth x0.2.t 8))).bind fun x8 =>
 (asInt .i64 ((nth x0.2.t 9))).bind fun x9 =>
 (asInt .u8 ((nth x0.2.t 10))).bind fun x10 =>
 some (.normal, (zjx x3 x4 x5 x6 x7 (IntKind.wrap .i64 (x8 + 1))))) (
 none)
 | .ret =>
 none)) (
 some ((.exit 2), (zjx r0 r1 n2 n3 n4 n5))) := by kernel_rfl
theorem e85_3 (C : CallT) (r0 : List (List V)) (r1 : List (List V)) (n2 : Int) (n3 : Int) : zp GZ LZ C 85 none 3 (zjw r0 r1 n2 n3) =
 cond (decide (n3 < ((r0.length : Nat) : Int))) (
 (zS r0 n3 7).bind fun x0 =>
 (zg x0).bind fun x1 =>
 (asInt .i64 (x1.1)).bind fun x2 =>
 (zg x1.2).bind fun x3 =>
 (asInt .u8 (x3.1)).bind fun x4 =>
 (zg x3.2).bind fun x5 =>
 (asInt .u8 (x5.1)).bind fun x6 =>
 (zg x5.2).bind fun x7 =>
 (asInt .u8 (x7.1)).bind fun x8 =>
 (zg x7.2).bind fun x9 =>
 (asInt .u8 (x9.1)).bind fun x10 =>
 (zg x9.2).bind fun x11 =>
 (asInt .u8 (x11.1)).bind fun x12 =>
 (zg x11.2).bind fun x13 =>
 (asInt .u8 (x13.1)).bind fun x14 =>
 (zh x13.2).bind fun x15 =>
 (C.w (zp GZ LZ C 85 none 7) (zjx r0 r1 n2 n3 x2 0)).bind fun x16 =>
 match x16.1 with
 | .normal =>
 none
 | .exit x18 =>
 cond (Nat.beq x18 2) (
 (zl ((nth x16.2.t 0))).bind fun x19 =>
 (zl ((nth x16.2.t 1))).bind fun x20 =>
 (asInt .i64 ((nth x16.2.t 5))).bind fun x21 =>
 (asInt .i64 ((nth x16.2.t 6))).bind fun x22 =>
 (asInt .i64 ((nth x16.2.t 7))).bind fun x23 =>
 (asInt .i64 ((nth x16.2.t 8))).bind fun x24 =>
 some (.normal, (zjw x19 x20 (IntKind.wrap .i64 (x21 + x23)) (IntKind.wrap .i64 (x22 + 1))))) (
 none)
 | .ret =>
 none) (
 some ((.exit 0), (zjw r0 r1 n2 n3))) := by kernel_rfl
theorem e85 (C : CallT) (r0 : List (List V)) (r1 : List (List V)) : zO GZ LZ C (.func 85) [.slice .any r0, .slice .any r1] [] =
 (C.w (zp GZ LZ C 85 none 3) (zjw r0 r1 0 0)).bind fun x0 =>
 match x0.1 with
 | .normal =>
 none
 | .exit x2 =>
 cond (Nat.beq x2 0) (
 (zl ((nth x0.2.t 0))).bind fun x3 =>
 (zl ((nth x0.2.t 1))).bind fun x4 =>
 (asInt .i64 ((nth x0.2.t 5))).bind fun x5 =>
 (asInt .i64 ((nth x0.2.t 6))).bind fun x6 =>
 some (.int .i64 x5, [])) (
 none)
 | .ret =>
 none := by kernel_rfl
def zf5 (p0 : List (List V)) (p1 : Nat) (p2 : Int) (p3 : List (List V)) : St := ⟨(sp 0 28 [(0, .slice .any p0), (3, .arr 0 p1 2), (4, .int .i64 p2)]), [.arr true 2 p3]⟩
theorem e43_3 (C : CallT) (r0 : List (List V)) (r1 : List (List V)) (n2 : Int) : zp GZ LZ C 43 none 3 (zf5 r1 r0.length n2 r0) =
 cond (decide (n2 < 6)) (
 cond (decide (n2 < ((r1.length : Nat) : Int))) (
 (zS r1 n2 1).bind fun x7 =>
 (zg x7).bind fun x8 =>
 (asInt .i8 (x8.1)).bind fun x9 =>
 (zh x8.2).bind fun x10 =>
 (C.p (.func 86) [.int .i64 (IntKind.wrap .i64 ((Int.tmod (IntKind.wrap .i64 x9) 2) * 65536))]).bind fun x11 =>
 (zi (x11)).bind fun x12 =>
 (zg x12).bind fun x13 =>
 (asInt .i64 (x13.1)).bind fun x14 =>
 (zg x13.2).bind fun x15 =>
 (asInt .i64 (x15.1)).bind fun x16 =>
 (zh x15.2).bind fun x17 =>
 cond (decide (r0.length = r0.length)) (
 cond (decide (((r0.length + 1) * 16) ≤ zag)) (
 some (.normal, (zf5 r1 (r0.length + 1) (IntKind.wrap .i64 (n2 + 1)) (List.append r0 [[.int .i64 x14, .int .i64 x16]])))) (
 none)) (
 none)) (
 (C.p (.func 86) [.int .i64 0]).bind fun x0 =>
 (zi (x0)).bind fun x1 =>
 (zg x1).bind fun x2 =>
 (asInt .i64 (x2.1)).bind fun x3 =>
 (zg x2.2).bind fun x4 =>
 (asInt .i64 (x4.1)).bind fun x5 =>
 (zh x4.2).bind fun x6 =>
 cond (decide (r0.length = r0.length)) (
 cond (decide (((r0.length + 1) * 16) ≤ zag)) (
 some (.normal, (zf5 r1 (r0.length + 1) (IntKind.wrap .i64 (n2 + 1)) (List.append r0 [[.int .i64 x3, .int .i64 x5]])))) (
 none)) (
 none))) (
 some ((.exit 0), (zf5 r1 r0.length n2 r0))) := by kernel_rfl
theorem e43 (C : CallT) (r0 : List (List V)) : zO GZ LZ C (.func 43) [.slice .any r0] [] =
 (C.w (zp GZ LZ C 43 none 3) (zf5 r0 0 0 [])).bind fun x0 =>
 match x0.1 with
 | .normal =>
 none
 | .exit x2 =>
 cond (Nat.beq x2 0) (
 (zl ((nth x0.2.t 0))).bind fun x3 =>
 (zcn 0 2 ((nth x0.2.t 3))).bind fun x4 =>
 (asInt .i64 ((nth x0.2.t 4))).bind fun x5 =>
 (zJ x0.2.h).bind fun x6 =>
 (zaU true 2 x6.1).bind fun x7 =>
 (zak [.arr true 2 x7] 0 x4).bind fun x8 =>
 some (.slice .any x8, [.arr false 2 x7])) (
 none)
 | .ret =>
 none := by kernel_rfl
theorem e57 (C : CallT) (r0 : List (List V)) (n1 : Int) (n2 : Int) : zO GZ LZ C (.func 57) [.slice .any r0, .agg [.int .i64 n1, .int .i64 n2]] [] =
 (C.p (.func 38) [.agg [.int .i64 n1, .int .i64 n2]]).bind fun x0 =>
 (asBool (x0)).bind fun x1 =>
 cond x1 (
 some (.agg [.slice .any [], .int .i64 n1, .int .i64 n2], [])) (
 some (.agg [.slice .any r0, .int .i64 n1, .int .i64 n2], [])) := by kernel_rfl
end Go.Ab
namespace Go.Ab
set_option maxHeartbeats 2000000
set_option maxRecDepth 100000
theorem e10 (C : CallT)  : zO GZ LZ C (.func 10) [] [] =
 (C.p (.func 42) [.int .i64 1, .int .i64 3]).bind fun x0 =>
 (zi (x0)).bind fun x1 =>
 (zg x1).bind fun x2 =>
 (asInt .i64 (x2.1)).bind fun x3 =>
 (zg x2.2).bind fun x4 =>
 (asInt .i64 (x4.1)).bind fun x5 =>
 (zh x4.2).bind fun x6 =>
 (C.p (.func 34) [.int .i64 0, .agg [.int .i64 x3, .int .i64 x5]]).bind fun x7 =>
 (zi (x7)).bind fun x8 =>
 (zg x8).bind fun x9 =>
 (zl (x9.1)).bind fun x10 =>
 (zg x9.2).bind fun x11 =>
 (asInt .i64 (x11.1)).bind fun x12 =>
 (zg x11.2).bind fun x13 =>
 (asInt .i64 (x13.1)).bind fun x14 =>
 (zh x13.2).bind fun x15 =>
 (C.p (.func 22) [.agg [.slice .any x10, .int .i64 x12, .int .i64 x14], .agg [.slice .any x10, .int .i64 x12, .int .i64 x14], .int .i64 1]).bind fun x16 =>
 (zi (x16)).bind fun x17 =>
 (zg x17).bind fun x18 =>
 (zl (x18.1)).bind fun x19 =>
 (zg x18.2).bind fun x20 =>
 (asInt .i64 (x20.1)).bind fun x21 =>
 (zg x20.2).bind fun x22 =>
 (asInt .i64 (x22.1)).bind fun x23 =>
 (zh x22.2).bind fun x24 =>
 (C.p (.func 42) [.int .i64 1, .int .i64 3]).bind fun x25 =>
 (zi (x25)).bind fun x26 =>
 (zg x26).bind fun x27 =>
 (asInt .i64 (x27.1)).bind fun x28 =>
 (zg x27.2).bind fun x29 =>
 (asInt .i64 (x29.1)).bind fun x30 =>
 (zh x29.2).bind fun x31 =>
 (C.p (.func 32) [.agg [.int .i64 x28, .int .i64 x30]]).bind fun x32 =>
 (zi (x32)).bind fun x33 =>
 (zg x33).bind fun x34 =>
 (zl (x34.1)).bind fun x35 =>
 (zg x34.2).bind fun x36 =>
 (asInt .i64 (x36.1)).bind fun x37 =>
 (zg x36.2).bind fun x38 =>
 (asInt .i64 (x38.1)).bind fun x39 =>
 (zh x38.2).bind fun x40 =>
 (C.p (.func 20) [.agg [.slice .any x10, .int .i64 x12, .int .i64 x14]]).bind fun x41 =>
 (zi (x41)).bind fun x42 =>
 (zg x42).bind fun x43 =>
 (zl (x43.1)).bind fun x44 =>
 (zg x43.2).bind fun x45 =>
 (asInt .i64 (x45.1)).bind fun x46 =>
 (zg x45.2).bind fun x47 =>
 (asInt .i64 (x47.1)).bind fun x48 =>
 (zh x47.2).bind fun x49 =>
 (C.p (.func 16) [.agg [.slice .any x10, .int .i64 x12, .int .i64 x14], .agg [.slice .any x44, .int .i64 x46, .int .i64 x48]]).bind fun x50 =>
 (zi (x50)).bind fun x51 =>
 (zg x51).bind fun x52 =>
 (zl (x52.1)).bind fun x53 =>
 (zg x52.2).bind fun x54 =>
 (asInt .i64 (x54.1)).bind fun x55 =>
 (zg x54.2).bind fun x56 =>
 (asInt .i64 (x56.1)).bind fun x57 =>
 (zh x56.2).bind fun x58 =>
 (C.p (.func 46) [.int .i64 2, .int .u8 0, .int .u8 0]).bind fun x59 =>
 (zi (x59)).bind fun x60 =>
 (zg x60).bind fun x61 =>
 (asInt .i64 (x61.1)).bind fun x62 =>
 (zg x61.2).bind fun x63 =>
 (asInt .u8 (x63.1)).bind fun x64 =>
 (zg x63.2).bind fun x65 =>
 (asInt .u8 (x65.1)).bind fun x66 =>
 (zg x65.2).bind fun x67 =>
 (asInt .u8 (x67.1)).bind fun x68 =>
 (zg x67.2).bind fun x69 =>
 (asInt .u8 (x69.1)).bind fun x70 =>
 (zg x69.2).bind fun x71 =>
 (asInt .u8 (x71.1)).bind fun x72 =>
 (zg x71.2).bind fun x73 =>
 (asInt .u8 (x73.1)).bind fun x74 =>
 (zh x73.2).bind fun x75 =>
 (C.p (.func 46) [.int .i64 1, .int .u8 1, .int .u8 0]).bind fun x76 =>
 (zi (x76)).bind fun x77 =>
 (zg x77).bind fun x78 =>
 (asInt .i64 (x78.1)).bind fun x79 =>
 (zg x78.2).bind fun x80 =>
 (asInt .u8 (x80.1)).bind fun x81 =>
 (zg x80.2).bind fun x82 =>
 (asInt .u8 (x82.1)).bind fun x83 =>
 (zg x82.2).bind fun x84 =>
 (asInt .u8 (x84.1)).bind fun x85 =>
 (zg x84.2).bind fun x86 =>
 (asInt .u8 (x86.1)).bind fun x87 =>
 (zg x86.2).bind fun x88 =>
 (asInt .u8 (x88.1)).bind fun x89 =>
 (zg x88.2).bind fun x90 =>
 (asInt .u8 (x90.1)).bind fun x91 =>
 (zh x90.2).bind fun x92 =>
 (C.p (.func 15) [.agg [.slice .any x10, .int .i64 x12, .int .i64 x14], .agg [.slice .any [[.int .i64 x62, .int .u8 x64, .int .u8 x66, .int .u8 x68, .int .u8 x70, .int .u8 x72, .int .u8 x74], [.int .i64 x79, .int .u8 x81, .int .u8 x83, .int .u8 x85, .int .u8 x87, .int .u8 x89, .int .u8 x91]], .int .i64 0, .int .i64 0]]).bind fun x93 =>
 (asBool (x93)).bind fun x94 =>
 cond x94 (
 (C.p (.func 46) [.int .i64 4, .int .u8 0, .int .u8 0]).bind fun x95 =>
 (zi (x95)).bind fun x96 =>
 (zg x96).bind fun x97 =>
 (asInt .i64 (x97.1)).bind fun x98 =>
 (zg x97.2).bind fun x99 =>
 (asInt .u8 (x99.1)).bind fun x100 =>
 (zg x99.2).bind fun x101 =>
 (asInt .u8 (x101.1)).bind fun x102 =>
 (zg x101.2).bind fun x103 =>
 (asInt .u8 (x103.1)).bind fun x104 =>
 (zg x103.2).bind fun x105 =>
 (asInt .u8 (x105.1)).bind fun x106 =>
 (zg x105.2).bind fun x107 =>
 (asInt .u8 (x107.1)).bind fun x108 =>
 (zg x107.2).bind fun x109 =>
 (asInt .u8 (x109.1)).bind fun x110 =>
 (zh x109.2).bind fun x111 =>
 (C.p (.func 46) [.int .i64 4, .int .u8 1, .int .u8 0]).bind fun x112 =>
 (zi (x112)).bind fun x113 =>
 (zg x113).bind fun x114 =>
 (asInt .i64 (x114.1)).bind fun x115 =>
 (zg x114.2).bind fun x116 =>
 (asInt .u8 (x116.1)).bind fun x117 =>
 (zg x116.2).bind fun x118 =>
 (asInt .u8 (x118.1)).bind fun x119 =>
 (zg x118.2).bind fun x120 =>
 (asInt .u8 (x120.1)).bind fun x121 =>
 (zg x120.2).bind fun x122 =>
 (asInt .u8 (x122.1)).bind fun x123 =>
 (zg x122.2).bind fun x124 =>
 (asInt .u8 (x124.1)).bind fun x125 =>
 (zg x124.2).bind fun x126 =>
 (asInt .u8 (x126.1)).bind fun x127 =>
 (zh x126.2).bind fun x128 =>
 (C.p (.func 42) [.int .i64 0, .int .i64 1]).bind fun x129 =>
 (zi (x129)).bind fun x130 =>
 (zg x130).bind fun x131 =>
 (asInt .i64 (x131.1)).bind fun x132 =>
 (zg x131.2).bind fun x133 =>
 (asInt .i64 (x133.1)).bind fun x134 =>
 (zh x133.2).bind fun x135 =>
 (C.p (.func 15) [.agg [.slice .any x19, .int .i64 x21, .int .i64 x23], .agg [.slice .any [[.int .i64 x98, .int .u8 x100, .int .u8 x102, .int .u8 x104, .int .u8 x106, .int .u8 x108, .int .u8 x110], [.int .i64 x115, .int .u8 x117, .int .u8 x119, .int .u8 x121, .int .u8 x123, .int .u8 x125, .int .u8 x127]], .int .i64 x132, .int .i64 x134]]).bind fun x136 =>
 (asBool (x136)).bind fun x137 =>
 cond x137 (
 (C.p (.func 28) [.agg [.slice .any x19, .int .i64 x21, .int .i64 x23]]).bind fun x138 =>
 (zi (x138)).bind fun x139 =>
 (zg x139).bind fun x140 =>
 (asInt .i64 (x140.1)).bind fun x141 =>
 (zg x140.2).bind fun x142 =>
 (asInt .i64 (x142.1)).bind fun x143 =>
 (zh x142.2).bind fun x144 =>
 (C.p (.func 42) [.int .i64 0, .int .i64 9]).bind fun x145 =>
 (zi (x145)).bind fun x146 =>
 (zg x146).bind fun x147 =>
 (asInt .i64 (x147.1)).bind fun x148 =>
 (zg x147.2).bind fun x149 =>
 (asInt .i64 (x149.1)).bind fun x150 =>
 (zh x149.2).bind fun x151 =>
 cond ((x141 == x148) && ((x143 == x150) && true)) (
 (C.p (.func 46) [.int .i64 2, .int .u8 0, .int .u8 0]).bind fun x152 =>
 (zi (x152)).bind fun x153 =>
 (zg x153).bind fun x154 =>
 (asInt .i64 (x154.1)).bind fun x155 =>
 (zg x154.2).bind fun x156 =>
 (asInt .u8 (x156.1)).bind fun x157 =>
 (zg x156.2).bind fun x158 =>
 (asInt .u8 (x158.1)).bind fun x159 =>
 (zg x158.2).bind fun x160 =>
 (asInt .u8 (x160.1)).bind fun x161 =>
 (zg x160.2).bind fun x162 =>
 (asInt .u8 (x162.1)).bind fun x163 =>
 (zg x162.2).bind fun x164 =>
 (asInt .u8 (x164.1)).bind fun x165 =>
 (zg x164.2).bind fun x166 =>
 (asInt .u8 (x166.1)).bind fun x167 =>
 (zh x166.2).bind fun x168 =>
 (C.p (.func 42) [.int .i64 (-1), .int .i64 1]).bind fun x169 =>
 (zi (x169)).bind fun x170 =>
 (zg x170).bind fun x171 =>
 (asInt .i64 (x171.1)).bind fun x172 =>
 (zg x171.2).bind fun x173 =>
 (asInt .i64 (x173.1)).bind fun x174 =>
 (zh x173.2).bind fun x175 =>
 (C.p (.func 15) [.agg [.slice .any x35, .int .i64 x37, .int .i64 x39], .agg [.slice .any [[.int .i64 x155, .int .u8 x157, .int .u8 x159, .int .u8 x161, .int .u8 x163, .int .u8 x165, .int .u8 x167]], .int .i64 x172, .int .i64 x174]]).bind fun x176 =>
 (asBool (x176)).bind fun x177 =>
 cond x177 (
 cond (((x53.length : Nat) : Int) == 0) (
 cond ((x55 == 0) && ((x57 == 0) && true)) (
 (C.p (.func 32) [.agg [.int .i64 (-2147483648), .int .i64 2147483648]]).bind fun x178 =>
 (zi (x178)).bind fun x179 =>
 (zg x179).bind fun x180 =>
 (zl (x180.1)).bind fun x181 =>
 (zg x180.2).bind fun x182 =>
 (asInt .i64 (x182.1)).bind fun x183 =>
 (zg x182.2).bind fun x184 =>
 (asInt .i64 (x184.1)).bind fun x185 =>
 (zh x184.2).bind fun x186 =>
 (C.p (.func 15) [.agg [.slice .any x181, .int .i64 x183, .int .i64 x185], .agg [.slice .any [], .int .i64 (-2147483648), .int .i64 2147483648]]).bind fun x187 =>
 (asBool (x187)).bind fun x188 =>
 cond x188 (
 (C.p (.func 32) [.agg [.int .i64 (-2147483648), .int .i64 2147483648]]).bind fun x189 =>
 (zi (x189)).bind fun x190 =>
 (zg x190).bind fun x191 =>
 (zl (x191.1)).bind fun x192 =>
 (zg x191.2).bind fun x193 =>
 (asInt .i64 (x193.1)).bind fun x194 =>
 (zg x193.2).bind fun x195 =>
 (asInt .i64 (x195.1)).bind fun x196 =>
 (zh x195.2).bind fun x197 =>
 (C.p (.func 18) [.agg [.slice .any x192, .int .i64 x194, .int .i64 x196], .agg [.slice .any x10, .int .i64 x12, .int .i64 x14]]).bind fun x198 =>
 (zi (x198)).bind fun x199 =>
 (zg x199).bind fun x200 =>
 (zl (x200.1)).bind fun x201 =>
 (zg x200.2).bind fun x202 =>
 (asInt .i64 (x202.1)).bind fun x203 =>
 (zg x202.2).bind fun x204 =>
 (asInt .i64 (x204.1)).bind fun x205 =>
 (zh x204.2).bind fun x206 =>
 (C.p (.func 15) [.agg [.slice .any x201, .int .i64 x203, .int .i64 x205], .agg [.slice .any [], .int .i64 (-2147483648), .int .i64 2147483648]]).bind fun x207 =>
 (asBool (x207)).bind fun x208 =>
 cond x208 (
 (C.p (.func 13) [.agg [.slice .any x19, .int .i64 x21, .int .i64 x23]]).bind fun x209 =>
 (asBool (x209)).bind fun x210 =>
 cond x210 (
 (C.p (.func 13) [.agg [.slice .any x19, .int .i64 (-2147483648), .int .i64 2147483648]]).bind fun x211 =>
 (asBool (x211)).bind fun x212 =>
 cond (!x212) (
 (C.p (.func 43) [.slice .any [[.int .i8 1]]]).bind fun x213 =>
 (zl (x213)).bind fun x214 =>
 (C.p (.func 36) [.agg [.slice .any x19, .int .i64 x21, .int .i64 x23], .slice .any x214]).bind fun x215 =>
 (zi (x215)).bind fun x216 =>
 (zg x216).bind fun x217 =>
 (asInt .i64 (x217.1)).bind fun x218 =>
 (zg x217.2).bind fun x219 =>
 (asInt .i64 (x219.1)).bind fun x220 =>
 (zh x219.2).bind fun x221 =>
 (C.p (.func 42) [.int .i64 8, .int .i64 9]).bind fun x222 =>
 (zi (x222)).bind fun x223 =>
 (zg x223).bind fun x224 =>
 (asInt .i64 (x224.1)).bind fun x225 =>
 (zg x224.2).bind fun x226 =>
 (asInt .i64 (x226.1)).bind fun x227 =>
 (zh x226.2).bind fun x228 =>
 cond ((x218 == x225) && ((x220 == x227) && true)) (
 (C.p (.func 26) [.agg [.slice .any x10, .int .i64 x12, .int .i64 x14], .int .i64 0]).bind fun x229 =>
 (zi (x229)).bind fun x230 =>
 (zg x230).bind fun x231 =>
 (zl (x231.1)).bind fun x232 =>
 (zg x231.2).bind fun x233 =>
 (asInt .i64 (x233.1)).bind fun x234 =>
 (zg x233.2).bind fun x235 =>
 (asInt .i64 (x235.1)).bind fun x236 =>
 (zh x235.2).bind fun x237 =>
 (C.p (.func 46) [.int .i64 2, .int .u8 0, .int .u8 0]).bind fun x238 =>
 (zi (x238)).bind fun x239 =>
 (zg x239).bind fun x240 =>
 (asInt .i64 (x240.1)).bind fun x241 =>
 (zg x240.2).bind fun x242 =>
 (asInt .u8 (x242.1)).bind fun x243 =>
 (zg x242.2).bind fun x244 =>
 (asInt .u8 (x244.1)).bind fun x245 =>
 (zg x244.2).bind fun x246 =>
 (asInt .u8 (x246.1)).bind fun x247 =>
 (zg x246.2).bind fun x248 =>
 (asInt .u8 (x248.1)).bind fun x249 =>
 (zg x248.2).bind fun x250 =>
 (asInt .u8 (x250.1)).bind fun x251 =>
 (zg x250.2).bind fun x252 =>
 (asInt .u8 (x252.1)).bind fun x253 =>
 (zh x252.2).bind fun x254 =>
 (C.p (.func 42) [.int .i64 (-1), .int .i64 1]).bind fun x255 =>
 (zi (x255)).bind fun x256 =>
 (zg x256).bind fun x257 =>
 (asInt .i64 (x257.1)).bind fun x258 =>
 (zg x257.2).bind fun x259 =>
 (asInt .i64 (x259.1)).bind fun x260 =>
 (zh x259.2).bind fun x261 =>
 (C.p (.func 15) [.agg [.slice .any x232, .int .i64 x234, .int .i64 x236], .agg [.slice .any [[.int .i64 x241, .int .u8 x243, .int .u8 x245, .int .u8 x247, .int .u8 x249, .int .u8 x251, .int .u8 x253]], .int .i64 x258, .int .i64 x260]]).bind fun x262 =>
 (asBool (x262)).bind fun x263 =>
 cond x263 (
 (C.p (.func 42) [.int .i64 2, .int .i64 2]).bind fun x264 =>
 (zi (x264)).bind fun x265 =>
 (zg x265).bind fun x266 =>
 (asInt .i64 (x266.1)).bind fun x267 =>
 (zg x266.2).bind fun x268 =>
 (asInt .i64 (x268.1)).bind fun x269 =>
 (zh x268.2).bind fun x270 =>
 (C.p (.func 24) [.agg [.slice .any x10, .int .i64 x12, .int .i64 x14], .agg [.int .i64 x267, .int .i64 x269]]).bind fun x271 =>
 (zi (x271)).bind fun x272 =>
 (zg x272).bind fun x273 =>
 (zl (x273.1)).bind fun x274 =>
 (zg x273.2).bind fun x275 =>
 (asInt .i64 (x275.1)).bind fun x276 =>
 (zg x275.2).bind fun x277 =>
 (asInt .i64 (x277.1)).bind fun x278 =>
 (zh x277.2).bind fun x279 =>
 (C.p (.func 46) [.int .i64 4, .int .u8 0, .int .u8 0]).bind fun x280 =>
 (zi (x280)).bind fun x281 =>
 (zg x281).bind fun x282 =>
 (asInt .i64 (x282.1)).bind fun x283 =>
 (zg x282.2).bind fun x284 =>
 (asInt .u8 (x284.1)).bind fun x285 =>
 (zg x284.2).bind fun x286 =>
 (asInt .u8 (x286.1)).bind fun x287 =>
 (zg x286.2).bind fun x288 =>
 (asInt .u8 (x288.1)).bind fun x289 =>
 (zg x288.2).bind fun x290 =>
 (asInt .u8 (x290.1)).bind fun x291 =>
 (zg x290.2).bind fun x292 =>
 (asInt .u8 (x292.1)).bind fun x293 =>
 (zg x292.2).bind fun x294 =>
 (asInt .u8 (x294.1)).bind fun x295 =>
 (zh x294.2).bind fun x296 =>
 (C.p (.func 46) [.int .i64 2, .int .u8 1, .int .u8 0]).bind fun x297 =>
 (zi (x297)).bind fun x298 =>
 (zg x298).bind fun x299 =>
 (asInt .i64 (x299.1)).bind fun x300 =>
 (zg x299.2).bind fun x301 =>
 (asInt .u8 (x301.1)).bind fun x302 =>
 (zg x301.2).bind fun x303 =>
 (asInt .u8 (x303.1)).bind fun x304 =>
 (zg x303.2).bind fun x305 =>
 (asInt .u8 (x305.1)).bind fun x306 =>
 (zg x305.2).bind fun x307 =>
 (asInt .u8 (x307.1)).bind fun x308 =>
 (zg x307.2).bind fun x309 =>
 (asInt .u8 (x309.1)).bind fun x310 =>
 (zg x309.2).bind fun x311 =>
 (asInt .u8 (x311.1)).bind fun x312 =>
 (zh x311.2).bind fun x313 =>
 (C.p (.func 15) [.agg [.slice .any x274, .int .i64 x276, .int .i64 x278], .agg [.slice .any [[.int .i64 x283, .int .u8 x285, .int .u8 x287, .int .u8 x289, .int .u8 x291, .int .u8 x293, .int .u8 x295], [.int .i64 x300, .int .u8 x302, .int .u8 x304, .int .u8 x306, .int .u8 x308, .int .u8 x310, .int .u8 x312]], .int .i64 0, .int .i64 0]]).bind fun x314 =>
 (asBool (x314)).bind fun x315 =>
 some (.bool x315, [])) (
 some (.bool false, []))) (
 some (.bool false, []))) (
 some (.bool false, []))) (
 some (.bool false, []))) (
 some (.bool false, []))) (
 some (.bool false, []))) (
 some (.bool false, []))) (
 some (.bool false, []))) (
 some (.bool false, []))) (
 some (.bool false, []))) (
 some (.bool false, []))) (
 some (.bool false, [])) := by kernel_rfl
end Go.Ab
