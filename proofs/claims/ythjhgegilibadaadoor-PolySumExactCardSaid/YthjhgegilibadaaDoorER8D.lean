/- What one call of each function does, written out: by evaluation; conditions: none. -/
import Derived.KernelRfl
import Derived.Test.YthjhgegilibadaaDoorT
namespace Go.Ab
set_option linter.unusedVariables false
set_option linter.unusedSimpArgs false
set_option linter.unusedVariables false
set_option maxHeartbeats 2000000
set_option maxRecDepth 100000
theorem e7 (C : CallT) (r0 : List (List V)) (r1 : List (List V)) (n2 : Int) (n3 : Int) (n4 : Int) (n5 : Int) : run1 GD LD C (.func 7) [.agg [.slice .any r0, .slice .any r1, .int .i64 n2, .int .i8 n3], .int .u8 n4, .int .u8 n5] [] =
 (C.p (.func 8) []).bind fun x0 =>
 (asBool (x0)).bind fun x1 =>
 (C.p (.func 37) [.agg [.slice .any r0, .slice .any r1, .int .i64 n2, .int .i8 n3]]).bind fun x2 =>
 (asTuple (x2)).bind fun x3 =>
 (uncons x3).bind fun x4 =>
 (asRows (x4.1)).bind fun x5 =>
 (uncons x4.2).bind fun x6 =>
 (asRows (x6.1)).bind fun x7 =>
 (isNil x6.2).bind fun x8 =>
 (C.p (.func 15) [.slice .any x5, .slice .any x7, .int .i64 (if (Int.tmod (IntKind.wrap .i64 n5) 8) > (Int.tmod (IntKind.wrap .i64 n4) 8) then (Int.tmod (IntKind.wrap .i64 n5) 8) else (Int.tmod (IntKind.wrap .i64 n4) 8))]).bind fun x9 =>
 (asTuple (x9)).bind fun x10 =>
 (uncons x10).bind fun x11 =>
 (asRows (x11.1)).bind fun x12 =>
 (uncons x11.2).bind fun x13 =>
 (asCells (x13.1)).bind fun x14 =>
 (uncons x14).bind fun x15 =>
 (asInt .i64 (x15.1)).bind fun x16 =>
 (uncons x15.2).bind fun x17 =>
 (asInt .i64 (x17.1)).bind fun x18 =>
 (isNil x17.2).bind fun x19 =>
 (isNil x13.2).bind fun x20 =>
 (C.p (.func 15) [.slice .any x5, .slice .any x7, .int .i64 (if (Int.tmod (IntKind.wrap .i64 n5) 8) < (Int.tmod (IntKind.wrap .i64 n4) 8) then (Int.tmod (IntKind.wrap .i64 n5) 8) else (Int.tmod (IntKind.wrap .i64 n4) 8))]).bind fun x21 =>
 (asTuple (x21)).bind fun x22 =>
 (uncons x22).bind fun x23 =>
 (asRows (x23.1)).bind fun x24 =>
 (uncons x23.2).bind fun x25 =>
 (asCells (x25.1)).bind fun x26 =>
 (uncons x26).bind fun x27 =>
 (asInt .i64 (x27.1)).bind fun x28 =>
 (uncons x27.2).bind fun x29 =>
 (asInt .i64 (x29.1)).bind fun x30 =>
 (isNil x29.2).bind fun x31 =>
 (isNil x25.2).bind fun x32 =>
 (C.p (.func 19) [.slice .any x12, .int .i64 (if (Int.tmod (IntKind.wrap .i64 n5) 8) < (Int.tmod (IntKind.wrap .i64 n4) 8) then (Int.tmod (IntKind.wrap .i64 n5) 8) else (Int.tmod (IntKind.wrap .i64 n4) 8))]).bind fun x33 =>
 (asTuple (x33)).bind fun x34 =>
 (uncons x34).bind fun x35 =>
 (asRows (x35.1)).bind fun x36 =>
 (uncons x35.2).bind fun x37 =>
 (asCells (x37.1)).bind fun x38 =>
 (uncons x38).bind fun x39 =>
 (asInt .i64 (x39.1)).bind fun x40 =>
 (uncons x39.2).bind fun x41 =>
 (asInt .i64 (x41.1)).bind fun x42 =>
 (isNil x41.2).bind fun x43 =>
 (isNil x37.2).bind fun x44 =>
 (C.p (.func 34) [.agg [.int .i64 x16, .int .i64 x18]]).bind fun x45 =>
 (asBool (x45)).bind fun x46 =>
 cond x46 (
 some (.bool x1, [])) (
 (C.p (.func 34) [.agg [.int .i64 x28, .int .i64 x30]]).bind fun x47 =>
 (asBool (x47)).bind fun x48 =>
 cond x48 (
 some (.bool x1, [])) (
 (C.p (.func 21) [.slice .any x24, .slice .any x36]).bind fun x49 =>
 (asBool (x49)).bind fun x50 =>
 cond x50 (
 (C.p (.func 41) [.agg [.int .i64 x16, .int .i64 x18], .agg [.int .i64 x40, .int .i64 x42]]).bind fun x51 =>
 (asCells (x51)).bind fun x52 =>
 (uncons x52).bind fun x53 =>
 (asInt .i64 (x53.1)).bind fun x54 =>
 (uncons x53.2).bind fun x55 =>
 (asInt .i64 (x55.1)).bind fun x56 =>
 (isNil x55.2).bind fun x57 =>
 (C.p (.func 22) [.agg [.int .i64 x28, .int .i64 x30], .agg [.int .i64 x54, .int .i64 x56]]).bind fun x58 =>
 (asBool (x58)).bind fun x59 =>
 cond x59 (
 some (.bool x1, [])) (
 some (.bool false, []))) (
 some (.bool false, [])))) := by kernel_rfl
end Go.Ab
