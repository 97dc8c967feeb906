/- What one call of each function does, written out: by evaluation; conditions: none. -/
import Derived.KernelRfl
import Derived.Test.YtpalbaaghplhnaaDoorT
set_option linter.unusedVariables false
set_option linter.unusedSimpArgs false
namespace Go.Ab
set_option maxHeartbeats 2000000
set_option maxRecDepth 100000
theorem e5 (C : CallT) (n0 : Int) (n1 : Int) : zM GU LU C (.func 5) [.agg [.int .i64 n0, .int .i64 n1]] [] =
 (C.p (.func 25) [.agg [.int .i64 n0, .int .i64 n1]]).bind fun x0 =>
 (asBool (x0)).bind fun x1 =>
 cond x1 (
 some (.agg [.int .i64 n0, .int .i64 n1], [])) (
 cond ((IntKind.wrap .i64 (((BitVec.ofInt (IntKind.bits .i64) n0 &&& BitVec.ofInt (IntKind.bits .i64) 31).toNat : Nat) : Int)) == 7) (
 (C.p (.func 26) []).bind fun x9 =>
 (zo (x9)).bind fun x10 =>
 (zg x10).bind fun x11 =>
 (asInt .i64 (x11.1)).bind fun x12 =>
 (zg x11.2).bind fun x13 =>
 (asInt .i64 (x13.1)).bind fun x14 =>
 (zh x13.2).bind fun x15 =>
 some (.agg [.int .i64 x12, .int .i64 x14], [])) (
 (C.p (.func 27) [.agg [.int .i64 n0, .int .i64 n1]]).bind fun x2 =>
 (zo (x2)).bind fun x3 =>
 (zg x3).bind fun x4 =>
 (asInt .i64 (x4.1)).bind fun x5 =>
 (zg x4.2).bind fun x6 =>
 (asInt .i64 (x6.1)).bind fun x7 =>
 (zh x6.2).bind fun x8 =>
 some (.agg [.int .i64 x5, .int .i64 x7], []))) := by kernel_rfl
theorem e8 (C : CallT) (n0 : Int) (n1 : Int) : zM GU LU C (.func 8) [.agg [.int .i64 n0, .int .i64 n1]] [] =
 cond (n0 == (-2147483648)) (
 some (.bool (n1 == 2147483648), [])) (
 some (.bool false, [])) := by kernel_rfl
theorem e27 (C : CallT) (n0 : Int) (n1 : Int) : zM GU LU C (.func 27) [.agg [.int .i64 n0, .int .i64 n1]] [] =
 some (.agg [.int .i64 (if (Int.tmod n1 16777216) < (Int.tmod n0 16777216) then (Int.tmod n1 16777216) else (Int.tmod n0 16777216)), .int .i64 (if (Int.tmod n1 16777216) > (Int.tmod n0 16777216) then (Int.tmod n1 16777216) else (Int.tmod n0 16777216))], []) := by kernel_rfl
theorem e64 (C : CallT) (n0 : Int) (n1 : Int) : zM GU LU C (.func 64) [.int .i64 n0, .int .i64 n1] [] =
 (C.p (.func 50) [.int .i64 n0]).bind fun x0 =>
 (asBool (x0)).bind fun x1 =>
 cond (!x1) (
 (C.p (.func 26) []).bind fun x11 =>
 (zo (x11)).bind fun x12 =>
 (zg x12).bind fun x13 =>
 (asInt .i64 (x13.1)).bind fun x14 =>
 (zg x13.2).bind fun x15 =>
 (asInt .i64 (x15.1)).bind fun x16 =>
 (zh x15.2).bind fun x17 =>
 some (.agg [.int .i64 x14, .int .i64 x16], [])) (
 (C.p (.func 50) [.int .i64 n1]).bind fun x2 =>
 (asBool (x2)).bind fun x3 =>
 cond (!x3) (
 (C.p (.func 26) []).bind fun x4 =>
 (zo (x4)).bind fun x5 =>
 (zg x5).bind fun x6 =>
 (asInt .i64 (x6.1)).bind fun x7 =>
 (zg x6.2).bind fun x8 =>
 (asInt .i64 (x8.1)).bind fun x9 =>
 (zh x8.2).bind fun x10 =>
 some (.agg [.int .i64 x7, .int .i64 x9], [])) (
 some (.agg [.int .i64 n0, .int .i64 n1], []))) := by kernel_rfl
theorem e50 (C : CallT) (n0 : Int) : zM GU LU C (.func 50) [.int .i64 n0] [] =
 cond (decide (n0 > (-2147483648))) (
 some (.bool (decide (n0 < 2147483648)), [])) (
 some (.bool false, [])) := by kernel_rfl
theorem e25 (C : CallT) (n0 : Int) (n1 : Int) : zM GU LU C (.func 25) [.agg [.int .i64 n0, .int .i64 n1]] [] =
 (C.p (.func 8) [.agg [.int .i64 n0, .int .i64 n1]]).bind fun x0 =>
 (asBool (x0)).bind fun x1 =>
 cond x1 (
 some (.bool true, [])) (
 (C.p (.func 50) [.int .i64 n0]).bind fun x2 =>
 (asBool (x2)).bind fun x3 =>
 cond x3 (
 (C.p (.func 50) [.int .i64 n1]).bind fun x4 =>
 (asBool (x4)).bind fun x5 =>
 cond x5 (
 some (.bool (decide (n0 ≤ n1)), [])) (
 some (.bool false, []))) (
 some (.bool false, []))) := by kernel_rfl
theorem e26 (C : CallT)  : zM GU LU C (.func 26) [] [] =
 some (.agg [.int .i64 (-2147483648), .int .i64 2147483648], []) := by kernel_rfl
theorem e48 (C : CallT) (n0 : Int) : zM GU LU C (.func 48) [.int .i64 n0] [] =
 (C.p (.func 64) [.int .i64 n0, .int .i64 n0]).bind fun x0 =>
 (zo (x0)).bind fun x1 =>
 (zg x1).bind fun x2 =>
 (asInt .i64 (x2.1)).bind fun x3 =>
 (zg x2.2).bind fun x4 =>
 (asInt .i64 (x4.1)).bind fun x5 =>
 (zh x4.2).bind fun x6 =>
 some (.agg [.int .i64 x3, .int .i64 x5], []) := by kernel_rfl
def zeg (p0 : List (List V)) (p1 : List (List V)) (p2 : Bool) (p3 : Int) : St := ⟨(sp 0 42 [(0, .slice .any p0), (1, .slice .any p1), (4, .bool p2), (5, .int .i64 p3)]), []⟩
theorem e43_4 (C : CallT) (r0 : List (List V)) (r1 : List (List V)) (b2 : Bool) (n3 : Int) : zw GU LU C 43 none 4 (zeg r0 r1 b2 n3) =
 cond (decide (n3 < ((r0.length : Nat) : Int))) (
 (zab r0 n3 7).bind fun x0 =>
 (zg x0).bind fun x1 =>
 (asInt .i64 (x1.1)).bind fun x2 =>
 (zg x1.2).bind fun x3 =>
 (asInt .u8 (x3.1)).bind fun x4 =>
 (zg x3.2).bind fun x5 =>
 (asInt .u8 (x5.1)).bind fun x6 =>
 (zg x5.2).bind fun x7 =>
 (asInt .u8 (x7.1)).bind fun x8 =>
 (zg x7.2).bind fun x9 =>
 (asInt .u8 (x9.1)).bind fun x10 =>
 (zg x9.2).bind fun x11 =>
 (asInt .u8 (x11.1)).bind fun x12 =>
 (zg x11.2).bind fun x13 =>
 (asInt .u8 (x13.1)).bind fun x14 =>
 (zh x13.2).bind fun x15 =>
 (zab r1 n3 7).bind fun x16 =>
 (zg x16).bind fun x17 =>
 (asInt .i64 (x17.1)).bind fun x18 =>
 (zg x17.2).bind fun x19 =>
 (asInt .u8 (x19.1)).bind fun x20 =>
 (zg x19.2).bind fun x21 =>
 (asInt .u8 (x21.1)).bind fun x22 =>
 (zg x21.2).bind fun x23 =>
 (asInt .u8 (x23.1)).bind fun x24 =>
 (zg x23.2).bind fun x25 =>
 (asInt .u8 (x25.1)).bind fun x26 =>
 (zg x25.2).bind fun x27 =>
 (asInt .u8 (x27.1)).bind fun x28 =>
 (zg x27.2).bind fun x29 =>
 (asInt .u8 (x29.1)).bind fun x30 =>
 (zh x29.2).bind fun x31 =>
 cond (x2 != x18) (
 some (.ret, (zeg r0 r1 false n3))) (
 (zab r0 n3 7).bind fun x32 =>
 (zg x32).bind fun x33 =>
 (asInt .i64 (x33.1)).bind fun x34 =>
 (zg x33.2).bind fun x35 =>
 (asInt .u8 (x35.1)).bind fun x36 =>
 (zg x35.2).bind fun x37 =>
 (asInt .u8 (x37.1)).bind fun x38 =>
 (zg x37.2).bind fun x39 =>
 (asInt .u8 (x39.1)).bind fun x40 =>
 (zg x39.2).bind fun x41 =>
 (asInt .u8 (x41.1)).bind fun x42 =>
 (zg x41.2).bind fun x43 =>
 (asInt .u8 (x43.1)).bind fun x44 =>
 (zg x43.2).bind fun x45 =>
 (asInt .u8 (x45.1)).bind fun x46 =>
 (zh x45.2).bind fun x47 =>
 (zab r1 n3 7).bind fun x48 =>
 (zg x48).bind fun x49 =>
 (asInt .i64 (x49.1)).bind fun x50 =>
 (zg x49.2).bind fun x51 =>
 (asInt .u8 (x51.1)).bind fun x52 =>
 (zg x51.2).bind fun x53 =>
 (asInt .u8 (x53.1)).bind fun x54 =>
 (zg x53.2).bind fun x55 =>
 (asInt .u8 (x55.1)).bind fun x56 =>
 (zg x55.2).bind fun x57 =>
 (asInt .u8 (x57.1)).bind fun x58 =>
 (zg x57.2).bind fun x59 =>
 (asInt .u8 (x59.1)).bind fun x60 =>
 (zg x59.2).bind fun x61 =>
 (asInt .u8 (x61.1)).bind fun x62 =>
 (zh x61.2).bind fun x63 =>
 (C.p (.func 59) [.agg [.int .u8 x36, .int .u8 x38, .int .u8 x40, .int .u8 x42, .int .u8 x44, .int .u8 x46], .agg [.int .u8 x52, .int .u8 x54, .int .u8 x56, .int .u8 x58, .int .u8 x60, .int .u8 x62]]).bind fun x64 =>
 (asInt .i64 (x64)).bind fun x65 =>
 cond (x65 != 0) (
 some (.ret, (zeg r0 r1 false n3))) (
 some (.normal, (zeg r0 r1 b2 (IntKind.wrap .i64 (n3 + 1))))))) (
 some ((.exit 0), (zeg r0 r1 b2 n3))) := by kernel_rfl
theorem e43 (C : CallT) (r0 : List (List V)) (r1 : List (List V)) : zM GU LU C (.func 43) [.slice .any r0, .slice .any r1] [] =
 cond (((r0.length : Nat) : Int) != ((r1.length : Nat) : Int)) (
 some (.bool false, [])) (
 (C.w (zw GU LU C 43 none 4) (zeg r0 r1 false 0)).bind fun x0 =>
 match x0.1 with
 | .normal =>
 none
 | .exit x2 =>
 cond (Nat.beq x2 0) (
 (zr ((nth x0.2.t 0))).bind fun x3 =>
 (zr ((nth x0.2.t 1))).bind fun x4 =>
 (asBool ((nth x0.2.t 4))).bind fun x5 =>
 (asInt .i64 ((nth x0.2.t 5))).bind fun x6 =>
 some (.bool true, [])) (
 none)
 | .ret =>
 (zr ((nth x0.2.t 0))).bind fun x7 =>
 (zr ((nth x0.2.t 1))).bind fun x8 =>
 (asBool ((nth x0.2.t 4))).bind fun x9 =>
 (asInt .i64 ((nth x0.2.t 5))).bind fun x10 =>
 some (.bool x9, [])) := by kernel_rfl
def zdM (p0 : Int) (p1 : Int) (p2 : Int) (p3 : Int) (p4 : Int) (p5 : Int) (p6 : Int) (p7 : Int) (p8 : Int) (p9 : Int) (p10 : Int) (p11 : Int) (p12 : Int) (p13 : Int) : St := ⟨(sp 0 24 [(2, .box [.int .u8 p0, .int .u8 p1, .int .u8 p2, .int .u8 p3, .int .u8 p4, .int .u8 p5]), (3, .box [.int .u8 p6, .int .u8 p7, .int .u8 p8, .int .u8 p9, .int .u8 p10, .int .u8 p11]), (4, .int .i64 p12), (5, .int .i64 p13)]), []⟩
theorem e59_2 (C : CallT) (n0 : Int) (n1 : Int) (n2 : Int) (n3 : Int) (n4 : Int) (n5 : Int) (n6 : Int) (n7 : Int) (n8 : Int) (n9 : Int) (n10 : Int) (n11 : Int) (n12 : Int) (n13 : Int) : zw GU LU C 59 none 2 (zdM n0 n1 n2 n3 n4 n5 n6 n7 n8 n9 n10 n11 n12 n13) =
 cond (decide (n13 < 6)) (
 cond (decide (0 ≤ n13)) (
 cond (decide (n13.toNat < 6)) (
 (zbK [n0, n1, n2, n3, n4, n5] (n13.toNat * 1)).bind fun x0 =>
 cond (decide (0 ≤ n13)) (
 cond (decide (n13.toNat < 6)) (
 (zbK [n6, n7, n8, n9, n10, n11] (n13.toNat * 1)).bind fun x1 =>
 cond (decide (x0 < x1)) (
 some (.ret, (zdM n0 n1 n2 n3 n4 n5 n6 n7 n8 n9 n10 n11 (-1) n13))) (
 cond (decide (0 ≤ n13)) (
 cond (decide (n13.toNat < 6)) (
 (zbK [n0, n1, n2, n3, n4, n5] (n13.toNat * 1)).bind fun x2 =>
 cond (decide (0 ≤ n13)) (
 cond (decide (n13.toNat < 6)) (
 (zbK [n6, n7, n8, n9, n10, n11] (n13.toNat * 1)).bind fun x3 =>
 cond (decide (x2 > x3)) (
 some (.ret, (zdM n0 n1 n2 n3 n4 n5 n6 n7 n8 n9 n10 n11 1 n13))) (
 some (.normal, (zdM n0 n1 n2 n3 n4 n5 n6 n7 n8 n9 n10 n11 n12 (IntKind.wrap .i64 (n13 + 1)))))) (
 none)) (
 none)) (
 none)) (
 none))) (
 none)) (
 none)) (
 none)) (
 none)) (
 some ((.exit 0), (zdM n0 n1 n2 n3 n4 n5 n6 n7 n8 n9 n10 n11 n12 n13))) := by kernel_rfl
theorem e59 (C : CallT) (n0 : Int) (n1 : Int) (n2 : Int) (n3 : Int) (n4 : Int) (n5 : Int) (n6 : Int) (n7 : Int) (n8 : Int) (n9 : Int) (n10 : Int) (n11 : Int) : zM GU LU C (.func 59) [.agg [.int .u8 n0, .int .u8 n1, .int .u8 n2, .int .u8 n3, .int .u8 n4, .int .u8 n5], .agg [.int .u8 n6, .int .u8 n7, .int .u8 n8, .int .u8 n9, .int .u8 n10, .int .u8 n11]] [] =
 (C.w (zw GU LU C 59 none 2) (zdM n0 n1 n2 n3 n4 n5 n6 n7 n8 n9 n10 n11 0 0)).bind fun x0 =>
 match x0.1 with
 | .normal =>
 none
 | .exit x2 =>
 cond (Nat.beq x2 0) (
 (zaH ((nth x0.2.t 2))).bind fun x3 =>
 (zg x3).bind fun x4 =>
 (asInt .u8 (x4.1)).bind fun x5 =>
 (zg x4.2).bind fun x6 =>
 (asInt .u8 (x6.1)).bind fun x7 =>
 (zg x6.2).bind fun x8 =>
 (asInt .u8 (x8.1)).bind fun x9 =>
 (zg x8.2).bind fun x10 =>
 (asInt .u8 (x10.1)).bind fun x11 =>
 (zg x10.2).bind fun x12 =>
 (asInt .u8 (x12.1)).bind fun x13 =>
 (zg x12.2).bind fun x14 =>
 (asInt .u8 (x14.1)).bind fun x15 =>
 (zh x14.2).bind fun x16 =>
 (zaH ((nth x0.2.t 3))).bind fun x17 =>
 (zg x17).bind fun x18 =>
 (asInt .u8 (x18.1)).bind fun x19 =>
 (zg x18.2).bind fun x20 =>
 (asInt .u8 (x20.1)).bind fun x21 =>
 (zg x20.2).bind fun x22 =>
 (asInt .u8 (x22.1)).bind fun x23 =>
 (zg x22.2).bind fun x24 =>
 (asInt .u8 (x24.1)).bind fun x25 =>
 (zg x24.2).bind fun x26 =>
 (asInt .u8 (x26.1)).bind fun x27 =>
 (zg x26.2).bind fun x28 =>
 (asInt .u8 (x28.1)).bind fun x29 =>
 (zh x28.2).bind fun x30 =>
 (asInt .i64 ((nth x0.2.t 4))).bind fun x31 =>
 (asInt .i64 ((nth x0.2.t 5))).bind fun x32 =>
 some (.int .i64 0, [])) (
 none)
 | .ret =>
 (zaH ((nth x0.2.t 2))).bind fun x33 =>
 (zg x33).bind fun x34 =>
 (asInt .u8 (x34.1)).bind fun x35 =>
 (zg x34.2).bind fun x36 =>
 (asInt .u8 (x36.1)).bind fun x37 =>
 (zg x36.2).bind fun x38 =>
 (asInt .u8 (x38.1)).bind fun x39 =>
 (zg x38.2).bind fun x40 =>
 (asInt .u8 (x40.1)).bind fun x41 =>
 (zg x40.2).bind fun x42 =>
 (asInt .u8 (x42.1)).bind fun x43 =>
 (zg x42.2).bind fun x44 =>
 (asInt .u8 (x44.1)).bind fun x45 =>
 (zh x44.2).bind fun x46 =>
 (zaH ((nth x0.2.t 3))).bind fun x47 =>
 (zg x47).bind fun x48 =>
 (asInt .u8 (x48.1)).bind fun x49 =>
 (zg x48.2).bind fun x50 =>
 (asInt .u8 (x50.1)).bind fun x51 =>
 (zg x50.2).bind fun x52 =>
 (asInt .u8 (x52.1)).bind fun x53 =>
 (zg x52.2).bind fun x54 =>
 (asInt .u8 (x54.1)).bind fun x55 =>
 (zg x54.2).bind fun x56 =>
 (asInt .u8 (x56.1)).bind fun x57 =>
 (zg x56.2).bind fun x58 =>
 (asInt .u8 (x58.1)).bind fun x59 =>
 (zh x58.2).bind fun x60 =>
 (asInt .i64 ((nth x0.2.t 4))).bind fun x61 =>
 (asInt .i64 ((nth x0.2.t 5))).bind fun x62 =>
 some (.int .i64 x61, []) := by kernel_rfl
end Go.Ab
namespace Go.Ab
set_option maxHeartbeats 2000000
set_option maxRecDepth 100000
end Go.Ab
