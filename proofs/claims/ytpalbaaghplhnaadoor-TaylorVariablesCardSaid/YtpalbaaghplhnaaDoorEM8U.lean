/- What one call of each function does, written out: by evaluation; conditions: none. -/
import Derived.KernelRfl
import Derived.Test.YtpalbaaghplhnaaDoorT
set_option linter.unusedVariables false
set_option linter.unusedSimpArgs false
namespace Go.Ab
set_option maxHeartbeats 2000000
set_option maxRecDepth 100000
theorem e3 (C : CallT) (n0 : Int) (n1 : Int) (n2 : Int) (n3 : Int) : zM GU LU C (.func 3) [.agg [.int .i64 n0, .int .i64 n1], .int .u8 n2, .int .u16 n3] [] =
 (C.p (.func 4) []).bind fun x0 =>
 (asBool (x0)).bind fun x1 =>
 (C.p (.func 5) [.agg [.int .i64 n0, .int .i64 n1]]).bind fun x2 =>
 (zo (x2)).bind fun x3 =>
 (zg x3).bind fun x4 =>
 (asInt .i64 (x4.1)).bind fun x5 =>
 (zg x4.2).bind fun x6 =>
 (asInt .i64 (x6.1)).bind fun x7 =>
 (zh x6.2).bind fun x8 =>
 (C.p (.func 6) [.int .i64 (IntKind.wrap .i64 (Int.tmod n2 6)), .agg [.int .i64 x5, .int .i64 x7]]).bind fun x9 =>
 (zo (x9)).bind fun x10 =>
 (zg x10).bind fun x11 =>
 (zr (x11.1)).bind fun x12 =>
 (zg x11.2).bind fun x13 =>
 (asInt .i64 (x13.1)).bind fun x14 =>
 (zg x13.2).bind fun x15 =>
 (asInt .i64 (x15.1)).bind fun x16 =>
 (zh x15.2).bind fun x17 =>
 (C.p (.func 7) [.agg [.int .i64 x5, .int .i64 x7]]).bind fun x18 =>
 (zo (x18)).bind fun x19 =>
 (zg x19).bind fun x20 =>
 (zr (x20.1)).bind fun x21 =>
 (zg x20.2).bind fun x22 =>
 (asInt .i64 (x22.1)).bind fun x23 =>
 (zg x22.2).bind fun x24 =>
 (asInt .i64 (x24.1)).bind fun x25 =>
 (zh x24.2).bind fun x26 =>
 (C.p (.func 8) [.agg [.int .i64 x5, .int .i64 x7]]).bind fun x27 =>
 (asBool (x27)).bind fun x28 =>
 cond x28 (
 cond x1 (
 cond (((x12.length : Nat) : Int) == 0) (
 (C.p (.func 9) [.agg [.int .i64 x14, .int .i64 x16]]).bind fun x46 =>
 (asBool (x46)).bind fun x47 =>
 cond x47 (
 cond (((x21.length : Nat) : Int) == 0) (
 (C.p (.func 9) [.agg [.int .i64 x23, .int .i64 x25]]).bind fun x48 =>
 (asBool (x48)).bind fun x49 =>
 some (.bool x49, [])) (
 some (.bool false, []))) (
 some (.bool false, []))) (
 some (.bool false, []))) (
 some (.bool false, []))) (
 (C.p (.func 10) [.agg [.slice .any x12, .int .i64 x14, .int .i64 x16], .slice .any [[.int .i8 0], [.int .i8 0], [.int .i8 0], [.int .i8 0], [.int .i8 0], [.int .i8 0]], .int .i64 (IntKind.wrap .i64 ((IntKind.wrap .i64 (x5 + (IntKind.wrap .i64 (Int.tdiv (IntKind.wrap .i64 (x7 - x5)) 2)))) * 65536))]).bind fun x29 =>
 (asBool (x29)).bind fun x30 =>
 cond (decide (0 ≤ (IntKind.wrap .i64 (Int.tmod n2 6)))) (
 cond (decide ((IntKind.wrap .i64 (Int.tmod n2 6)).toNat < 6)) (
 (zaj [.arr true 1 ([[.int .i8 0], [.int .i8 0], [.int .i8 0], [.int .i8 0], [.int .i8 0], [.int .i8 0]].set (IntKind.wrap .i64 (Int.tmod n2 6)).toNat (.int .i8 1 :: (zag 1 ([[.int .i8 0], [.int .i8 0], [.int .i8 0], [.int .i8 0], [.int .i8 0], [.int .i8 0]].getD (IntKind.wrap .i64 (Int.tmod n2 6)).toNat []))))] 0 6).bind fun x31 =>
 (C.p (.func 10) [.agg [.slice .any x12, .int .i64 x14, .int .i64 x16], .slice .any x31, .int .i64 (IntKind.wrap .i64 (x7 * 65536))]).bind fun x32 =>
 (asBool (x32)).bind fun x33 =>
 cond (decide (0 ≤ (IntKind.wrap .i64 (Int.tmod n2 6)))) (
 cond (decide ((IntKind.wrap .i64 (Int.tmod n2 6)).toNat < 6)) (
 cond (decide (6 = ([[.int .i8 0], [.int .i8 0], [.int .i8 0], [.int .i8 0], [.int .i8 0], [.int .i8 0]].set (IntKind.wrap .i64 (Int.tmod n2 6)).toNat (.int .i8 1 :: (zag 1 ([[.int .i8 0], [.int .i8 0], [.int .i8 0], [.int .i8 0], [.int .i8 0], [.int .i8 0]].getD (IntKind.wrap .i64 (Int.tmod n2 6)).toNat [])))).length)) (
 (zaj [.arr true 1 (([[.int .i8 0], [.int .i8 0], [.int .i8 0], [.int .i8 0], [.int .i8 0], [.int .i8 0]].set (IntKind.wrap .i64 (Int.tmod n2 6)).toNat (.int .i8 1 :: (zag 1 ([[.int .i8 0], [.int .i8 0], [.int .i8 0], [.int .i8 0], [.int .i8 0], [.int .i8 0]].getD (IntKind.wrap .i64 (Int.tmod n2 6)).toNat [])))).set (IntKind.wrap .i64 (Int.tmod n2 6)).toNat (.int .i8 (-1) :: (zag 1 (([[.int .i8 0], [.int .i8 0], [.int .i8 0], [.int .i8 0], [.int .i8 0], [.int .i8 0]].set (IntKind.wrap .i64 (Int.tmod n2 6)).toNat (.int .i8 1 :: (zag 1 ([[.int .i8 0], [.int .i8 0], [.int .i8 0], [.int .i8 0], [.int .i8 0], [.int .i8 0]].getD (IntKind.wrap .i64 (Int.tmod n2 6)).toNat [])))).getD (IntKind.wrap .i64 (Int.tmod n2 6)).toNat []))))] 0 6).bind fun x34 =>
 (C.p (.func 11) [.agg [.slice .any x12, .int .i64 x14, .int .i64 x16], .slice .any x34, .int .u16 0]).bind fun x35 =>
 (asInt .i64 (x35)).bind fun x36 =>
 cond x1 (
 cond x30 (
 cond x33 (
 cond (decide (x36 ≤ x5)) (
 cond (decide (x36 ≥ (IntKind.wrap .i64 (x5 - 1)))) (
 (zaj [.arr true 1 (([[.int .i8 0], [.int .i8 0], [.int .i8 0], [.int .i8 0], [.int .i8 0], [.int .i8 0]].set (IntKind.wrap .i64 (Int.tmod n2 6)).toNat (.int .i8 1 :: (zag 1 ([[.int .i8 0], [.int .i8 0], [.int .i8 0], [.int .i8 0], [.int .i8 0], [.int .i8 0]].getD (IntKind.wrap .i64 (Int.tmod n2 6)).toNat [])))).set (IntKind.wrap .i64 (Int.tmod n2 6)).toNat (.int .i8 (-1) :: (zag 1 (([[.int .i8 0], [.int .i8 0], [.int .i8 0], [.int .i8 0], [.int .i8 0], [.int .i8 0]].set (IntKind.wrap .i64 (Int.tmod n2 6)).toNat (.int .i8 1 :: (zag 1 ([[.int .i8 0], [.int .i8 0], [.int .i8 0], [.int .i8 0], [.int .i8 0], [.int .i8 0]].getD (IntKind.wrap .i64 (Int.tmod n2 6)).toNat [])))).getD (IntKind.wrap .i64 (Int.tmod n2 6)).toNat []))))] 0 6).bind fun x37 =>
 (C.p (.func 10) [.agg [.slice .any x21, .int .i64 x23, .int .i64 x25], .slice .any x37, .int .i64 (IntKind.wrap .i64 ((IntKind.wrap .i64 (x5 + (IntKind.wrap .i64 (Int.tdiv (IntKind.wrap .i64 ((IntKind.wrap .i64 (x7 - x5)) * (IntKind.wrap .i64 n3))) 65535)))) * 65536))]).bind fun x38 =>
 (asBool (x38)).bind fun x39 =>
 cond x39 (
 (zaj [.arr true 1 (([[.int .i8 0], [.int .i8 0], [.int .i8 0], [.int .i8 0], [.int .i8 0], [.int .i8 0]].set (IntKind.wrap .i64 (Int.tmod n2 6)).toNat (.int .i8 1 :: (zag 1 ([[.int .i8 0], [.int .i8 0], [.int .i8 0], [.int .i8 0], [.int .i8 0], [.int .i8 0]].getD (IntKind.wrap .i64 (Int.tmod n2 6)).toNat [])))).set (IntKind.wrap .i64 (Int.tmod n2 6)).toNat (.int .i8 (-1) :: (zag 1 (([[.int .i8 0], [.int .i8 0], [.int .i8 0], [.int .i8 0], [.int .i8 0], [.int .i8 0]].set (IntKind.wrap .i64 (Int.tmod n2 6)).toNat (.int .i8 1 :: (zag 1 ([[.int .i8 0], [.int .i8 0], [.int .i8 0], [.int .i8 0], [.int .i8 0], [.int .i8 0]].getD (IntKind.wrap .i64 (Int.tmod n2 6)).toNat [])))).getD (IntKind.wrap .i64 (Int.tmod n2 6)).toNat []))))] 0 6).bind fun x40 =>
 (C.p (.func 10) [.agg [.slice .any x21, .int .i64 x23, .int .i64 x25], .slice .any x40, .int .i64 (IntKind.wrap .i64 ((IntKind.wrap .i64 (x7 * 65536)) + 1))]).bind fun x41 =>
 (asBool (x41)).bind fun x42 =>
 cond (!x42) (
 (zaj [.arr true 1 (([[.int .i8 0], [.int .i8 0], [.int .i8 0], [.int .i8 0], [.int .i8 0], [.int .i8 0]].set (IntKind.wrap .i64 (Int.tmod n2 6)).toNat (.int .i8 1 :: (zag 1 ([[.int .i8 0], [.int .i8 0], [.int .i8 0], [.int .i8 0], [.int .i8 0], [.int .i8 0]].getD (IntKind.wrap .i64 (Int.tmod n2 6)).toNat [])))).set (IntKind.wrap .i64 (Int.tmod n2 6)).toNat (.int .i8 (-1) :: (zag 1 (([[.int .i8 0], [.int .i8 0], [.int .i8 0], [.int .i8 0], [.int .i8 0], [.int .i8 0]].set (IntKind.wrap .i64 (Int.tmod n2 6)).toNat (.int .i8 1 :: (zag 1 ([[.int .i8 0], [.int .i8 0], [.int .i8 0], [.int .i8 0], [.int .i8 0], [.int .i8 0]].getD (IntKind.wrap .i64 (Int.tmod n2 6)).toNat [])))).getD (IntKind.wrap .i64 (Int.tmod n2 6)).toNat []))))] 0 6).bind fun x43 =>
 (C.p (.func 10) [.agg [.slice .any x21, .int .i64 x23, .int .i64 x25], .slice .any x43, .int .i64 (IntKind.wrap .i64 ((IntKind.wrap .i64 (x5 * 65536)) - 1))]).bind fun x44 =>
 (asBool (x44)).bind fun x45 =>
 some (.bool (!x45), [.arr true 1 (([[.int .i8 0], [.int .i8 0], [.int .i8 0], [.int .i8 0], [.int .i8 0], [.int .i8 0]].set (IntKind.wrap .i64 (Int.tmod n2 6)).toNat (.int .i8 1 :: (zag 1 ([[.int .i8 0], [.int .i8 0], [.int .i8 0], [.int .i8 0], [.int .i8 0], [.int .i8 0]].getD (IntKind.wrap .i64 (Int.tmod n2 6)).toNat [])))).set (IntKind.wrap .i64 (Int.tmod n2 6)).toNat (.int .i8 (-1) :: (zag 1 (([[.int .i8 0], [.int .i8 0], [.int .i8 0], [.int .i8 0], [.int .i8 0], [.int .i8 0]].set (IntKind.wrap .i64 (Int.tmod n2 6)).toNat (.int .i8 1 :: (zag 1 ([[.int .i8 0], [.int .i8 0], [.int .i8 0], [.int .i8 0], [.int .i8 0], [.int .i8 0]].getD (IntKind.wrap .i64 (Int.tmod n2 6)).toNat [])))).getD (IntKind.wrap .i64 (Int.tmod n2 6)).toNat []))))])) (
 some (.bool false, [.arr true 1 (([[.int .i8 0], [.int .i8 0], [.int .i8 0], [.int .i8 0], [.int .i8 0], [.int .i8 0]].set (IntKind.wrap .i64 (Int.tmod n2 6)).toNat (.int .i8 1 :: (zag 1 ([[.int .i8 0], [.int .i8 0], [.int .i8 0], [.int .i8 0], [.int .i8 0], [.int .i8 0]].getD (IntKind.wrap .i64 (Int.tmod n2 6)).toNat [])))).set (IntKind.wrap .i64 (Int.tmod n2 6)).toNat (.int .i8 (-1) :: (zag 1 (([[.int .i8 0], [.int .i8 0], [.int .i8 0], [.int .i8 0], [.int .i8 0], [.int .i8 0]].set (IntKind.wrap .i64 (Int.tmod n2 6)).toNat (.int .i8 1 :: (zag 1 ([[.int .i8 0], [.int .i8 0], [.int .i8 0], [.int .i8 0], [.int .i8 0], [.int .i8 0]].getD (IntKind.wrap .i64 (Int.tmod n2 6)).toNat [])))).getD (IntKind.wrap .i64 (Int.tmod n2 6)).toNat []))))]))) (
 some (.bool false, [.arr true 1 (([[.int .i8 0], [.int .i8 0], [.int .i8 0], [.int .i8 0], [.int .i8 0], [.int .i8 0]].set (IntKind.wrap .i64 (Int.tmod n2 6)).toNat (.int .i8 1 :: (zag 1 ([[.int .i8 0], [.int .i8 0], [.int .i8 0], [.int .i8 0], [.int .i8 0], [.int .i8 0]].getD (IntKind.wrap .i64 (Int.tmod n2 6)).toNat [])))).set (IntKind.wrap .i64 (Int.tmod n2 6)).toNat (.int .i8 (-1) :: (zag 1 (([[.int .i8 0], [.int .i8 0], [.int .i8 0], [.int .i8 0], [.int .i8 0], [.int .i8 0]].set (IntKind.wrap .i64 (Int.tmod n2 6)).toNat (.int .i8 1 :: (zag 1 ([[.int .i8 0], [.int .i8 0], [.int .i8 0], [.int .i8 0], [.int .i8 0], [.int .i8 0]].getD (IntKind.wrap .i64 (Int.tmod n2 6)).toNat [])))).getD (IntKind.wrap .i64 (Int.tmod n2 6)).toNat []))))]))) (
 some (.bool false, [.arr true 1 (([[.int .i8 0], [.int .i8 0], [.int .i8 0], [.int .i8 0], [.int .i8 0], [.int .i8 0]].set (IntKind.wrap .i64 (Int.tmod n2 6)).toNat (.int .i8 1 :: (zag 1 ([[.int .i8 0], [.int .i8 0], [.int .i8 0], [.int .i8 0], [.int .i8 0], [.int .i8 0]].getD (IntKind.wrap .i64 (Int.tmod n2 6)).toNat [])))).set (IntKind.wrap .i64 (Int.tmod n2 6)).toNat (.int .i8 (-1) :: (zag 1 (([[.int .i8 0], [.int .i8 0], [.int .i8 0], [.int .i8 0], [.int .i8 0], [.int .i8 0]].set (IntKind.wrap .i64 (Int.tmod n2 6)).toNat (.int .i8 1 :: (zag 1 ([[.int .i8 0], [.int .i8 0], [.int .i8 0], [.int .i8 0], [.int .i8 0], [.int .i8 0]].getD (IntKind.wrap .i64 (Int.tmod n2 6)).toNat [])))).getD (IntKind.wrap .i64 (Int.tmod n2 6)).toNat []))))]))) (
 some (.bool false, [.arr true 1 (([[.int .i8 0], [.int .i8 0], [.int .i8 0], [.int .i8 0], [.int .i8 0], [.int .i8 0]].set (IntKind.wrap .i64 (Int.tmod n2 6)).toNat (.int .i8 1 :: (zag 1 ([[.int .i8 0], [.int .i8 0], [.int .i8 0], [.int .i8 0], [.int .i8 0], [.int .i8 0]].getD (IntKind.wrap .i64 (Int.tmod n2 6)).toNat [])))).set (IntKind.wrap .i64 (Int.tmod n2 6)).toNat (.int .i8 (-1) :: (zag 1 (([[.int .i8 0], [.int .i8 0], [.int .i8 0], [.int .i8 0], [.int .i8 0], [.int .i8 0]].set (IntKind.wrap .i64 (Int.tmod n2 6)).toNat (.int .i8 1 :: (zag 1 ([[.int .i8 0], [.int .i8 0], [.int .i8 0], [.int .i8 0], [.int .i8 0], [.int .i8 0]].getD (IntKind.wrap .i64 (Int.tmod n2 6)).toNat [])))).getD (IntKind.wrap .i64 (Int.tmod n2 6)).toNat []))))]))) (
 some (.bool false, [.arr true 1 (([[.int .i8 0], [.int .i8 0], [.int .i8 0], [.int .i8 0], [.int .i8 0], [.int .i8 0]].set (IntKind.wrap .i64 (Int.tmod n2 6)).toNat (.int .i8 1 :: (zag 1 ([[.int .i8 0], [.int .i8 0], [.int .i8 0], [.int .i8 0], [.int .i8 0], [.int .i8 0]].getD (IntKind.wrap .i64 (Int.tmod n2 6)).toNat [])))).set (IntKind.wrap .i64 (Int.tmod n2 6)).toNat (.int .i8 (-1) :: (zag 1 (([[.int .i8 0], [.int .i8 0], [.int .i8 0], [.int .i8 0], [.int .i8 0], [.int .i8 0]].set (IntKind.wrap .i64 (Int.tmod n2 6)).toNat (.int .i8 1 :: (zag 1 ([[.int .i8 0], [.int .i8 0], [.int .i8 0], [.int .i8 0], [.int .i8 0], [.int .i8 0]].getD (IntKind.wrap .i64 (Int.tmod n2 6)).toNat [])))).getD (IntKind.wrap .i64 (Int.tmod n2 6)).toNat []))))]))) (
 some (.bool false, [.arr true 1 (([[.int .i8 0], [.int .i8 0], [.int .i8 0], [.int .i8 0], [.int .i8 0], [.int .i8 0]].set (IntKind.wrap .i64 (Int.tmod n2 6)).toNat (.int .i8 1 :: (zag 1 ([[.int .i8 0], [.int .i8 0], [.int .i8 0], [.int .i8 0], [.int .i8 0], [.int .i8 0]].getD (IntKind.wrap .i64 (Int.tmod n2 6)).toNat [])))).set (IntKind.wrap .i64 (Int.tmod n2 6)).toNat (.int .i8 (-1) :: (zag 1 (([[.int .i8 0], [.int .i8 0], [.int .i8 0], [.int .i8 0], [.int .i8 0], [.int .i8 0]].set (IntKind.wrap .i64 (Int.tmod n2 6)).toNat (.int .i8 1 :: (zag 1 ([[.int .i8 0], [.int .i8 0], [.int .i8 0], [.int .i8 0], [.int .i8 0], [.int .i8 0]].getD (IntKind.wrap .i64 (Int.tmod n2 6)).toNat [])))).getD (IntKind.wrap .i64 (Int.tmod n2 6)).toNat []))))]))) (
 some (.bool false, [.arr true 1 (([[.int .i8 0], [.int .i8 0], [.int .i8 0], [.int .i8 0], [.int .i8 0], [.int .i8 0]].set (IntKind.wrap .i64 (Int.tmod n2 6)).toNat (.int .i8 1 :: (zag 1 ([[.int .i8 0], [.int .i8 0], [.int .i8 0], [.int .i8 0], [.int .i8 0], [.int .i8 0]].getD (IntKind.wrap .i64 (Int.tmod n2 6)).toNat [])))).set (IntKind.wrap .i64 (Int.tmod n2 6)).toNat (.int .i8 (-1) :: (zag 1 (([[.int .i8 0], [.int .i8 0], [.int .i8 0], [.int .i8 0], [.int .i8 0], [.int .i8 0]].set (IntKind.wrap .i64 (Int.tmod n2 6)).toNat (.int .i8 1 :: (zag 1 ([[.int .i8 0], [.int .i8 0], [.int .i8 0], [.int .i8 0], [.int .i8 0], [.int .i8 0]].getD (IntKind.wrap .i64 (Int.tmod n2 6)).toNat [])))).getD (IntKind.wrap .i64 (Int.tmod n2 6)).toNat []))))]))) (
 none)) (
 none)) (
 none)) (
 none)) (
 none)) := by kernel_rfl
end Go.Ab
