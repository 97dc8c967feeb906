/- What one call of each function does, written out: by evaluation; conditions: none. -/
import Derived.KernelRfl
import Derived.Test.YtbfecmgiffkooaaT20
namespace Go.Ab
set_option linter.unusedVariables false
set_option linter.unusedSimpArgs false
set_option linter.unusedVariables false
set_option linter.unusedSimpArgs false
set_option linter.unusedVariables false
set_option maxHeartbeats 2000000
theorem e46 (C : CallT) (n0 : Int) (n1 : Int) : run1 Go.Ab.G20 Go.Ab.L20 C (.func 46) [.agg [.int .i64 n0, .int .i64 n1]] [] =
  (C.p (.func 63) []).bind fun x0 =>
  (asCells (x0)).bind fun x1 =>
  (uncons x1).bind fun x2 =>
  (asInt .i64 (x2.1)).bind fun x3 =>
  (uncons x2.2).bind fun x4 =>
  (asInt .i64 (x4.1)).bind fun x5 =>
  (isNil x4.2).bind fun x6 =>
  some (.bool ((n0 == x3) && ((n1 == x5) && true)), []) := by kernel_rfl

theorem s65 (C : CallT) (n0 : Int) (n1 : Int) (n2 : Int) (n3 : Int) (n4 : Int) (b5 : Bool) (r6 : List (List V)) (r7 : List (List V)) (l8 : LoopA) (n9 : Int) (n10 : Int) : run1 Go.Ab.G20 Go.Ab.L20 C (.func 65) [.agg [.int .i64 n9, .int .i64 n10], .ptr 2 0] [.cells [.int .i64 n0], .cells [.int .i64 n1, .int .i64 n2], .cells [.int .i64 n3, .int .i64 n4], .cells [.bool b5], .cells [.fn (.func 65) [] [.ptr 2 0]], .cells [.slice .any r6], .cells [.slice .any r7], .loop l8] =
  (C.p (.func 46) [.agg [.int .i64 n9, .int .i64 n10]]).bind fun x0 =>
  (asBool (x0)).bind fun x1 =>
  cond x1 (
   some (.agg [.int .i64 (if 0 < n3 then 0 else n3), .int .i64 (if 2147483648 < n4 then 2147483648 else n4)], [.cells [.int .i64 n0], .cells [.int .i64 n1, .int .i64 n2], .cells [.int .i64 (if 0 < n3 then 0 else n3), .int .i64 (if 2147483648 < n4 then 2147483648 else n4)], .cells [.bool b5], .cells [.fn (.func 65) [] [.ptr 2 0]], .cells [.slice .any r6], .cells [.slice .any r7], .loop l8])) (
   some (.agg [.int .i64 (if n9 < n3 then n9 else n3), .int .i64 (if n10 < n4 then n10 else n4)], [.cells [.int .i64 n0], .cells [.int .i64 n1, .int .i64 n2], .cells [.int .i64 (if n9 < n3 then n9 else n3), .int .i64 (if n10 < n4 then n10 else n4)], .cells [.bool b5], .cells [.fn (.func 65) [] [.ptr 2 0]], .cells [.slice .any r6], .cells [.slice .any r7], .loop l8])) := by kernel_rfl

theorem y15_5 (C : CallT) (n0 : Int) (n1 : Int) (n2 : Int) (n3 : Int) (n4 : Int) (b5 : Bool) (r6 : List (List V)) (r7 : List (List V)) (r8 : List (List V)) (r9 : List (List V)) (n10 : Int) (b11 : Bool) (r12 : List (List V)) (r13 : List (List V)) (n14 : Int) (n15 : Int) (r16 : List (List V)) (r17 : List (List V)) (r18 : List (List V)) (r19 : List (List V)) (n20 : Int) (n21 : Int) (r22 : List (List V)) (r23 : List (List V)) (r24 : List (List V)) (r25 : List (List V)) (n26 : Int) (n27 : Int) : run1 Go.Ab.G20 Go.Ab.L20 C (.yield 7) [.agg [.int .i64 n14, .int .i64 n15, .slice .any r16, .slice .any r17, .slice .any r18, .slice .any r19, .int .i64 n20, .int .i64 n21, .slice .any r22, .slice .any r23, .slice .any r24, .slice .any r25, .int .i64 n26, .int .i64 n27]] [.cells [.int .i64 n0], .cells [.int .i64 n1, .int .i64 n2], .cells [.int .i64 n3, .int .i64 n4], .cells [.bool b5], .cells [.fn (.func 65) [] [.ptr 2 0]], .cells [.slice .any r6], .cells [.slice .any r7], .loop ⟨.ready, none, (sp 0 38 [(0, .slice .any r8), (1, .slice .any r9), (2, .int .i64 n10), (5, .ptr 0 0), (7, .bool b11), (8, .ptr 1 0), (9, .ptr 3 0), (10, .ptr 4 0), (12, .fn (.func 65) [] [.ptr 2 0]), (13, .slice .any r12), (14, .slice .any r13), (15, .fn (.func 66) [] [.ptr 5 0, .ptr 6 0])]), 15, [16], rangeAssign GP 15 5, rangeBody GP 15 5⟩] =
  cond (decide (0 ≤ n0)) (
   cond (decide (n0.toNat ≤ r18.length)) (
    cond (decide (0 ≤ n0)) (
     cond (decide (n0.toNat ≤ r24.length)) (
      (C.p (.func 41) [.slice .any ((r18.take n0.toNat).drop 0), .slice .any ((r24.take n0.toNat).drop 0)]).bind fun x0 =>
      (asCells (x0)).bind fun x1 =>
      (uncons x1).bind fun x2 =>
      (asInt .i64 (x2.1)).bind fun x3 =>
      (uncons x2.2).bind fun x4 =>
      (asInt .i64 (x4.1)).bind fun x5 =>
      (isNil x4.2).bind fun x6 =>
      (C.s (.func 65) [.agg [.int .i64 x3, .int .i64 x5], .ptr 2 0] [.cells [.int .i64 n0], .cells [.int .i64 n1, .int .i64 n2], .cells [.int .i64 n3, .int .i64 n4], .cells [.bool b5], .cells [.fn (.func 65) [] [.ptr 2 0]], .cells [.slice .any r6], .cells [.slice .any r7], .loop ⟨.busy, none, (sp 0 38 [(0, .slice .any r8), (1, .slice .any r9), (2, .int .i64 n10), (5, .ptr 0 0), (7, .bool b11), (8, .ptr 1 0), (9, .ptr 3 0), (10, .ptr 4 0), (12, .fn (.func 65) [] [.ptr 2 0]), (13, .slice .any r12), (14, .slice .any r13), (15, .fn (.func 66) [] [.ptr 5 0, .ptr 6 0])]), 15, [16], rangeAssign GP 15 5, rangeBody GP 15 5⟩]).bind fun x7 =>
      (asCells (x7.1)).bind fun x8 =>
      (uncons x8).bind fun x9 =>
      (asInt .i64 (x9.1)).bind fun x10 =>
      (uncons x9.2).bind fun x11 =>
      (asInt .i64 (x11.1)).bind fun x12 =>
      (isNil x11.2).bind fun x13 =>
      (unconsO x7.2).bind fun x14 =>
      (asObCells x14.1).bind fun x15 =>
      (uncons x15).bind fun x16 =>
      (asInt .i64 (x16.1)).bind fun x17 =>
      (isNil x16.2).bind fun x18 =>
      (unconsO x14.2).bind fun x19 =>
      (asObCells x19.1).bind fun x20 =>
      (uncons x20).bind fun x21 =>
      (asInt .i64 (x21.1)).bind fun x22 =>
      (uncons x21.2).bind fun x23 =>
      (asInt .i64 (x23.1)).bind fun x24 =>
      (isNil x23.2).bind fun x25 =>
      (unconsO x19.2).bind fun x26 =>
      (asObCells x26.1).bind fun x27 =>
      (uncons x27).bind fun x28 =>
      (asInt .i64 (x28.1)).bind fun x29 =>
      (uncons x28.2).bind fun x30 =>
      (asInt .i64 (x30.1)).bind fun x31 =>
      (isNil x30.2).bind fun x32 =>
      (unconsO x26.2).bind fun x33 =>
      (asObCells x33.1).bind fun x34 =>
      (uncons x34).bind fun x35 =>
      (asBool (x35.1)).bind fun x36 =>
      (isNil x35.2).bind fun x37 =>
      (unconsO x33.2).bind fun x38 =>
      (asObCells x38.1).bind fun x39 =>
      (uncons x39).bind fun x40 =>
      (asFn (.func 65) (x40.1)).bind fun x41 =>
      (isNil x41.1).bind fun x42 =>
      (uncons x41.2).bind fun x43 =>
      (asPtr 2 0 (x43.1)).bind fun x44 =>
      (isNil x43.2).bind fun x45 =>
      (isNil x40.2).bind fun x46 =>
      (unconsO x38.2).bind fun x47 =>
      (asObCells x47.1).bind fun x48 =>
      (uncons x48).bind fun x49 =>
      (asRows (x49.1)).bind fun x50 =>
      (isNil x49.2).bind fun x51 =>
      (unconsO x47.2).bind fun x52 =>
      (asObCells x52.1).bind fun x53 =>
      (uncons x53).bind fun x54 =>
      (asRows (x54.1)).bind fun x55 =>
      (isNil x54.2).bind fun x56 =>
      (unconsO x52.2).bind fun x57 =>
      (asLoop x57.1).bind fun x58 =>
      (isBusy x58.st).bind fun x59 =>
      some (.bool true, [.cells [.int .i64 x17], .cells [.int .i64 x10, .int .i64 x12], .cells [.int .i64 x29, .int .i64 x31], .cells [.bool true], .cells [.fn (.func 65) [] [.ptr 2 0]], .cells [.slice .any x50], .cells [.slice .any x55], .loop { x58 with st := .ready, pend := none }])) (
      none)) (
     none)) (
    none)) (
   none) := by kernel_rfl

theorem e66_7 (C : CallT) (n0 : Int) (n1 : Int) (n2 : Int) (n3 : Int) (n4 : Int) (b5 : Bool) (r6 : List (List V)) (r7 : List (List V)) (l8 : LoopA) (n9 : Int) (n10 : Int) (n11 : Int) (r12 : List (List V)) (r13 : List (List V)) (r14 : List (List V)) (r15 : List (List V)) (r16 : List (List V)) (n17 : Int) (n18 : Int) (r19 : List (List V)) (n20 : Int) (n21 : Int) : roundK Go.Ab.G20 Go.Ab.L20 C 66 none 7 ⟨(sp 0 63 [(0, .fn (.yield 7) [] []), (2, .ptr 6 0), (4, .int .i64 n9), (6, .box [.int .i64 n10, .int .i64 n11, .slice .any r12, .slice .any r13, .slice .any r14, .slice .any r15]), (9, .slice .any r16), (10, .int .i64 n17), (11, .int .i64 n18), (33, .slice .any r19), (34, .int .i64 n20), (35, .int .i64 n21)]), [.cells [.int .i64 n0], .cells [.int .i64 n1, .int .i64 n2], .cells [.int .i64 n3, .int .i64 n4], .cells [.bool b5], .cells [.fn (.func 65) [] [.ptr 2 0]], .cells [.slice .any r6], .cells [.slice .any r7], .loop l8]⟩ =
  cond (decide (n21 < n20)) (
   (getRow r19 n21 6).bind fun x0 =>
   (uncons x0).bind fun x1 =>
   (asInt .i64 (x1.1)).bind fun x2 =>
   (uncons x1.2).bind fun x3 =>
   (asInt .i64 (x3.1)).bind fun x4 =>
   (uncons x3.2).bind fun x5 =>
   (asRows (x5.1)).bind fun x6 =>
   (uncons x5.2).bind fun x7 =>
   (asRows (x7.1)).bind fun x8 =>
   (uncons x7.2).bind fun x9 =>
   (asRows (x9.1)).bind fun x10 =>
   (uncons x9.2).bind fun x11 =>
   (asRows (x11.1)).bind fun x12 =>
   (isNil x11.2).bind fun x13 =>
   (C.p (.func 37) [.agg [.int .i64 n10, .int .i64 n11, .slice .any r12, .slice .any r13, .slice .any r14, .slice .any r15]]).bind fun x14 =>
   (asInt .i64 (x14)).bind fun x15 =>
   cond (decide (x2 > x15)) (
    some ((.exit 1), ⟨(sp 0 63 [(0, .fn (.yield 7) [] []), (2, .ptr 6 0), (4, .int .i64 n9), (6, .box [.int .i64 n10, .int .i64 n11, .slice .any r12, .slice .any r13, .slice .any r14, .slice .any r15]), (9, .slice .any r16), (10, .int .i64 n17), (11, .int .i64 n18), (33, .slice .any r19), (34, .int .i64 n20), (35, .int .i64 n21)]), [.cells [.int .i64 n0], .cells [.int .i64 n1, .int .i64 n2], .cells [.int .i64 n3, .int .i64 n4], .cells [.bool b5], .cells [.fn (.func 65) [] [.ptr 2 0]], .cells [.slice .any r6], .cells [.slice .any r7], .loop l8]⟩)) (
    (C.p (.func 37) [.agg [.int .i64 n10, .int .i64 n11, .slice .any r12, .slice .any r13, .slice .any r14, .slice .any r15]]).bind fun x16 =>
    (asInt .i64 (x16)).bind fun x17 =>
    (C.p (.func 37) [.agg [.int .i64 x2, .int .i64 x4, .slice .any x6, .slice .any x8, .slice .any x10, .slice .any x12]]).bind fun x18 =>
    (asInt .i64 (x18)).bind fun x19 =>
    (C.s (.yield 7) [.agg [.int .i64 n10, .int .i64 n11, .slice .any r12, .slice .any r13, .slice .any r14, .slice .any r15, .int .i64 x2, .int .i64 x4, .slice .any x6, .slice .any x8, .slice .any x10, .slice .any x12, .int .i64 (if x2 > n10 then x2 else n10), .int .i64 (if x19 < x17 then x19 else x17)]] [.cells [.int .i64 n0], .cells [.int .i64 n1, .int .i64 n2], .cells [.int .i64 n3, .int .i64 n4], .cells [.bool b5], .cells [.fn (.func 65) [] [.ptr 2 0]], .cells [.slice .any r6], .cells [.slice .any r7], .loop l8]).bind fun x20 =>
    (asBool (x20.1)).bind fun x21 =>
    (unconsO x20.2).bind fun x22 =>
    (asObCells x22.1).bind fun x23 =>
    (uncons x23).bind fun x24 =>
    (asInt .i64 (x24.1)).bind fun x25 =>
    (isNil x24.2).bind fun x26 =>
    (unconsO x22.2).bind fun x27 =>
    (asObCells x27.1).bind fun x28 =>
    (uncons x28).bind fun x29 =>
    (asInt .i64 (x29.1)).bind fun x30 =>
    (uncons x29.2).bind fun x31 =>
    (asInt .i64 (x31.1)).bind fun x32 =>
    (isNil x31.2).bind fun x33 =>
    (unconsO x27.2).bind fun x34 =>
    (asObCells x34.1).bind fun x35 =>
    (uncons x35).bind fun x36 =>
    (asInt .i64 (x36.1)).bind fun x37 =>
    (uncons x36.2).bind fun x38 =>
    (asInt .i64 (x38.1)).bind fun x39 =>
    (isNil x38.2).bind fun x40 =>
    (unconsO x34.2).bind fun x41 =>
    (asObCells x41.1).bind fun x42 =>
    (uncons x42).bind fun x43 =>
    (asBool (x43.1)).bind fun x44 =>
    (isNil x43.2).bind fun x45 =>
    (unconsO x41.2).bind fun x46 =>
    (asObCells x46.1).bind fun x47 =>
    (uncons x47).bind fun x48 =>
    (asFn (.func 65) (x48.1)).bind fun x49 =>
    (isNil x49.1).bind fun x50 =>
    (uncons x49.2).bind fun x51 =>
    (asPtr 2 0 (x51.1)).bind fun x52 =>
    (isNil x51.2).bind fun x53 =>
    (isNil x48.2).bind fun x54 =>
    (unconsO x46.2).bind fun x55 =>
    (asObCells x55.1).bind fun x56 =>
    (uncons x56).bind fun x57 =>
    (asRows (x57.1)).bind fun x58 =>
    (isNil x57.2).bind fun x59 =>
    (unconsO x55.2).bind fun x60 =>
    (asObCells x60.1).bind fun x61 =>
    (uncons x61).bind fun x62 =>
    (asRows (x62.1)).bind fun x63 =>
    (isNil x62.2).bind fun x64 =>
    (unconsO x60.2).bind fun x65 =>
    (asLoop x65.1).bind fun x66 =>
    cond (!x21) (
     some (.ret, ⟨(sp 0 63 [(0, .fn (.yield 7) [] []), (2, .ptr 6 0), (4, .int .i64 n9), (6, .box [.int .i64 n10, .int .i64 n11, .slice .any r12, .slice .any r13, .slice .any r14, .slice .any r15]), (9, .slice .any r16), (10, .int .i64 n17), (11, .int .i64 n18), (33, .slice .any r19), (34, .int .i64 n20), (35, .int .i64 n21)]), [.cells [.int .i64 x25], .cells [.int .i64 x30, .int .i64 x32], .cells [.int .i64 x37, .int .i64 x39], .cells [.bool x44], .cells [.fn (.func 65) [] [.ptr 2 0]], .cells [.slice .any x58], .cells [.slice .any x63], .loop x66]⟩)) (
     some (.normal, ⟨(sp 0 63 [(0, .fn (.yield 7) [] []), (2, .ptr 6 0), (4, .int .i64 n9), (6, .box [.int .i64 n10, .int .i64 n11, .slice .any r12, .slice .any r13, .slice .any r14, .slice .any r15]), (9, .slice .any r16), (10, .int .i64 n17), (11, .int .i64 n18), (33, .slice .any r19), (34, .int .i64 n20), (35, .int .i64 (Go.IntKind.wrap .i64 (n21 + 1)))]), [.cells [.int .i64 x25], .cells [.int .i64 x30, .int .i64 x32], .cells [.int .i64 x37, .int .i64 x39], .cells [.bool x44], .cells [.fn (.func 65) [] [.ptr 2 0]], .cells [.slice .any x58], .cells [.slice .any x63], .loop x66]⟩)))) (
   some ((.exit 4), ⟨(sp 0 63 [(0, .fn (.yield 7) [] []), (2, .ptr 6 0), (4, .int .i64 n9), (6, .box [.int .i64 n10, .int .i64 n11, .slice .any r12, .slice .any r13, .slice .any r14, .slice .any r15]), (9, .slice .any r16), (10, .int .i64 n17), (11, .int .i64 n18), (33, .slice .any r19), (34, .int .i64 n20), (35, .int .i64 n21)]), [.cells [.int .i64 n0], .cells [.int .i64 n1, .int .i64 n2], .cells [.int .i64 n3, .int .i64 n4], .cells [.bool b5], .cells [.fn (.func 65) [] [.ptr 2 0]], .cells [.slice .any r6], .cells [.slice .any r7], .loop l8]⟩)) := by kernel_rfl

theorem e66_4 (C : CallT) (n0 : Int) (n1 : Int) (n2 : Int) (n3 : Int) (n4 : Int) (b5 : Bool) (r6 : List (List V)) (r7 : List (List V)) (l8 : LoopA) (n9 : Int) (n10 : Int) (n11 : Int) (r12 : List (List V)) (r13 : List (List V)) (r14 : List (List V)) (r15 : List (List V)) (r16 : List (List V)) (n17 : Int) (n18 : Int) : roundK Go.Ab.G20 Go.Ab.L20 C 66 none 4 ⟨(sp 0 63 [(0, .fn (.yield 7) [] []), (2, .ptr 6 0), (4, .int .i64 n9), (6, .box [.int .i64 n10, .int .i64 n11, .slice .any r12, .slice .any r13, .slice .any r14, .slice .any r15]), (9, .slice .any r16), (10, .int .i64 n17), (11, .int .i64 n18)]), [.cells [.int .i64 n0], .cells [.int .i64 n1, .int .i64 n2], .cells [.int .i64 n3, .int .i64 n4], .cells [.bool b5], .cells [.fn (.func 65) [] [.ptr 2 0]], .cells [.slice .any r6], .cells [.slice .any r7], .loop l8]⟩ =
  cond (decide (n9 < ((r7.length : Nat) : Int))) (
   (getRow r7 n9 6).bind fun x0 =>
   (uncons x0).bind fun x1 =>
   (asInt .i64 (x1.1)).bind fun x2 =>
   (uncons x1.2).bind fun x3 =>
   (asInt .i64 (x3.1)).bind fun x4 =>
   (uncons x3.2).bind fun x5 =>
   (asRows (x5.1)).bind fun x6 =>
   (uncons x5.2).bind fun x7 =>
   (asRows (x7.1)).bind fun x8 =>
   (uncons x7.2).bind fun x9 =>
   (asRows (x9.1)).bind fun x10 =>
   (uncons x9.2).bind fun x11 =>
   (asRows (x11.1)).bind fun x12 =>
   (isNil x11.2).bind fun x13 =>
   (C.p (.func 37) [.agg [.int .i64 x2, .int .i64 x4, .slice .any x6, .slice .any x8, .slice .any x10, .slice .any x12]]).bind fun x14 =>
   (asInt .i64 (x14)).bind fun x15 =>
   cond (decide (x15 < n10)) (
    some (.normal, ⟨(sp 0 63 [(0, .fn (.yield 7) [] []), (2, .ptr 6 0), (4, .int .i64 (Go.IntKind.wrap .i64 (n9 + 1))), (6, .box [.int .i64 n10, .int .i64 n11, .slice .any r12, .slice .any r13, .slice .any r14, .slice .any r15]), (9, .slice .any r16), (10, .int .i64 n17), (11, .int .i64 n18)]), [.cells [.int .i64 n0], .cells [.int .i64 n1, .int .i64 n2], .cells [.int .i64 n3, .int .i64 n4], .cells [.bool b5], .cells [.fn (.func 65) [] [.ptr 2 0]], .cells [.slice .any r6], .cells [.slice .any r7], .loop l8]⟩)) (
    some ((.exit 2), ⟨(sp 0 63 [(0, .fn (.yield 7) [] []), (2, .ptr 6 0), (4, .int .i64 n9), (6, .box [.int .i64 n10, .int .i64 n11, .slice .any r12, .slice .any r13, .slice .any r14, .slice .any r15]), (9, .slice .any r16), (10, .int .i64 n17), (11, .int .i64 n18)]), [.cells [.int .i64 n0], .cells [.int .i64 n1, .int .i64 n2], .cells [.int .i64 n3, .int .i64 n4], .cells [.bool b5], .cells [.fn (.func 65) [] [.ptr 2 0]], .cells [.slice .any r6], .cells [.slice .any r7], .loop l8]⟩))) (
   some ((.exit 2), ⟨(sp 0 63 [(0, .fn (.yield 7) [] []), (2, .ptr 6 0), (4, .int .i64 n9), (6, .box [.int .i64 n10, .int .i64 n11, .slice .any r12, .slice .any r13, .slice .any r14, .slice .any r15]), (9, .slice .any r16), (10, .int .i64 n17), (11, .int .i64 n18)]), [.cells [.int .i64 n0], .cells [.int .i64 n1, .int .i64 n2], .cells [.int .i64 n3, .int .i64 n4], .cells [.bool b5], .cells [.fn (.func 65) [] [.ptr 2 0]], .cells [.slice .any r6], .cells [.slice .any r7], .loop l8]⟩)) := by kernel_rfl

theorem e66_2 (C : CallT) (n0 : Int) (n1 : Int) (n2 : Int) (n3 : Int) (n4 : Int) (b5 : Bool) (r6 : List (List V)) (r7 : List (List V)) (l8 : LoopA) (n9 : Int) (r10 : List (List V)) (n11 : Int) (n12 : Int) : roundK Go.Ab.G20 Go.Ab.L20 C 66 none 2 ⟨(sp 0 63 [(0, .fn (.yield 7) [] []), (2, .ptr 6 0), (4, .int .i64 n9), (9, .slice .any r10), (10, .int .i64 n11), (11, .int .i64 n12)]), [.cells [.int .i64 n0], .cells [.int .i64 n1, .int .i64 n2], .cells [.int .i64 n3, .int .i64 n4], .cells [.bool b5], .cells [.fn (.func 65) [] [.ptr 2 0]], .cells [.slice .any r6], .cells [.slice .any r7], .loop l8]⟩ =
  cond (decide (n12 < n11)) (
   (getRow r10 n12 6).bind fun x0 =>
   (uncons x0).bind fun x1 =>
   (asInt .i64 (x1.1)).bind fun x2 =>
   (uncons x1.2).bind fun x3 =>
   (asInt .i64 (x3.1)).bind fun x4 =>
   (uncons x3.2).bind fun x5 =>
   (asRows (x5.1)).bind fun x6 =>
   (uncons x5.2).bind fun x7 =>
   (asRows (x7.1)).bind fun x8 =>
   (uncons x7.2).bind fun x9 =>
   (asRows (x9.1)).bind fun x10 =>
   (uncons x9.2).bind fun x11 =>
   (asRows (x11.1)).bind fun x12 =>
   (isNil x11.2).bind fun x13 =>
   (C.w (roundK Go.Ab.G20 Go.Ab.L20 C 66 none 4) ⟨(sp 0 63 [(0, .fn (.yield 7) [] []), (2, .ptr 6 0), (4, .int .i64 n9), (6, .box [.int .i64 x2, .int .i64 x4, .slice .any x6, .slice .any x8, .slice .any x10, .slice .any x12]), (9, .slice .any r10), (10, .int .i64 n11), (11, .int .i64 n12)]), [.cells [.int .i64 n0], .cells [.int .i64 n1, .int .i64 n2], .cells [.int .i64 n3, .int .i64 n4], .cells [.bool b5], .cells [.fn (.func 65) [] [.ptr 2 0]], .cells [.slice .any r6], .cells [.slice .any r7], .loop l8]⟩).bind fun x14 =>
   match x14.1 with
   | .normal =>
     none
   | .exit x16 =>
     cond (Nat.beq x16 2) (
      (asFn (.yield 7) ((nth x14.2.t 0))).bind fun x17 =>
      (isNil x17.1).bind fun x18 =>
      (isNil x17.2).bind fun x19 =>
      (asPtr 6 0 ((nth x14.2.t 2))).bind fun x20 =>
      (asInt .i64 ((nth x14.2.t 4))).bind fun x21 =>
      (asBox ((nth x14.2.t 6))).bind fun x22 =>
      (uncons x22).bind fun x23 =>
      (asInt .i64 (x23.1)).bind fun x24 =>
      (uncons x23.2).bind fun x25 =>
      (asInt .i64 (x25.1)).bind fun x26 =>
      (uncons x25.2).bind fun x27 =>
      (asRows (x27.1)).bind fun x28 =>
      (uncons x27.2).bind fun x29 =>
      (asRows (x29.1)).bind fun x30 =>
      (uncons x29.2).bind fun x31 =>
      (asRows (x31.1)).bind fun x32 =>
      (uncons x31.2).bind fun x33 =>
      (asRows (x33.1)).bind fun x34 =>
      (isNil x33.2).bind fun x35 =>
      (asRows ((nth x14.2.t 9))).bind fun x36 =>
      (asInt .i64 ((nth x14.2.t 10))).bind fun x37 =>
      (asInt .i64 ((nth x14.2.t 11))).bind fun x38 =>
      (unconsO x14.2.h).bind fun x39 =>
      (asObCells x39.1).bind fun x40 =>
      (uncons x40).bind fun x41 =>
      (asInt .i64 (x41.1)).bind fun x42 =>
      (isNil x41.2).bind fun x43 =>
      (unconsO x39.2).bind fun x44 =>
      (asObCells x44.1).bind fun x45 =>
      (uncons x45).bind fun x46 =>
      (asInt .i64 (x46.1)).bind fun x47 =>
      (uncons x46.2).bind fun x48 =>
      (asInt .i64 (x48.1)).bind fun x49 =>
      (isNil x48.2).bind fun x50 =>
      (unconsO x44.2).bind fun x51 =>
      (asObCells x51.1).bind fun x52 =>
      (uncons x52).bind fun x53 =>
      (asInt .i64 (x53.1)).bind fun x54 =>
      (uncons x53.2).bind fun x55 =>
      (asInt .i64 (x55.1)).bind fun x56 =>
      (isNil x55.2).bind fun x57 =>
      (unconsO x51.2).bind fun x58 =>
      (asObCells x58.1).bind fun x59 =>
      (uncons x59).bind fun x60 =>
      (asBool (x60.1)).bind fun x61 =>
      (isNil x60.2).bind fun x62 =>
      (unconsO x58.2).bind fun x63 =>
      (asObCells x63.1).bind fun x64 =>
      (uncons x64).bind fun x65 =>
      (asFn (.func 65) (x65.1)).bind fun x66 =>
      (isNil x66.1).bind fun x67 =>
      (uncons x66.2).bind fun x68 =>
      (asPtr 2 0 (x68.1)).bind fun x69 =>
      (isNil x68.2).bind fun x70 =>
      (isNil x65.2).bind fun x71 =>
      (unconsO x63.2).bind fun x72 =>
      (asObCells x72.1).bind fun x73 =>
      (uncons x73).bind fun x74 =>
      (asRows (x74.1)).bind fun x75 =>
      (isNil x74.2).bind fun x76 =>
      (unconsO x72.2).bind fun x77 =>
      (asObCells x77.1).bind fun x78 =>
      (uncons x78).bind fun x79 =>
      (asRows (x79.1)).bind fun x80 =>
      (isNil x79.2).bind fun x81 =>
      (unconsO x77.2).bind fun x82 =>
      (asLoop x82.1).bind fun x83 =>
      cond (decide (0 ≤ x21)) (
       cond (decide (x21.toNat ≤ x80.length)) (
        cond (headIs 6 x80) (
         (C.w (roundK Go.Ab.G20 Go.Ab.L20 C 66 none 7) ⟨(sp 0 63 [(0, .fn (.yield 7) [] []), (2, .ptr 6 0), (4, .int .i64 x21), (6, .box [.int .i64 x24, .int .i64 x26, .slice .any x28, .slice .any x30, .slice .any x32, .slice .any x34]), (9, .slice .any x36), (10, .int .i64 x37), (11, .int .i64 x38), (33, .slice .any ((x80.take x80.length).drop x21.toNat)), (34, .int .i64 ((((x80.take x80.length).drop x21.toNat).length : Nat) : Int)), (35, .int .i64 0)]), [.cells [.int .i64 x42], .cells [.int .i64 x47, .int .i64 x49], .cells [.int .i64 x54, .int .i64 x56], .cells [.bool x61], .cells [.fn (.func 65) [] [.ptr 2 0]], .cells [.slice .any x75], .cells [.slice .any x80], .loop x83]⟩).bind fun x84 =>
         match x84.1 with
         | .normal =>
           none
         | .exit x86 =>
           cond (Nat.beq x86 4) (
            (asFn (.yield 7) ((nth x84.2.t 0))).bind fun x157 =>
            (isNil x157.1).bind fun x158 =>
            (isNil x157.2).bind fun x159 =>
            (asPtr 6 0 ((nth x84.2.t 2))).bind fun x160 =>
            (asInt .i64 ((nth x84.2.t 4))).bind fun x161 =>
            (asBox ((nth x84.2.t 6))).bind fun x162 =>
            (uncons x162).bind fun x163 =>
            (asInt .i64 (x163.1)).bind fun x164 =>
            (uncons x163.2).bind fun x165 =>
            (asInt .i64 (x165.1)).bind fun x166 =>
            (uncons x165.2).bind fun x167 =>
            (asRows (x167.1)).bind fun x168 =>
            (uncons x167.2).bind fun x169 =>
            (asRows (x169.1)).bind fun x170 =>
            (uncons x169.2).bind fun x171 =>
            (asRows (x171.1)).bind fun x172 =>
            (uncons x171.2).bind fun x173 =>
            (asRows (x173.1)).bind fun x174 =>
            (isNil x173.2).bind fun x175 =>
            (asRows ((nth x84.2.t 9))).bind fun x176 =>
            (asInt .i64 ((nth x84.2.t 10))).bind fun x177 =>
            (asInt .i64 ((nth x84.2.t 11))).bind fun x178 =>
            (asRows ((nth x84.2.t 33))).bind fun x179 =>
            (asInt .i64 ((nth x84.2.t 34))).bind fun x180 =>
            (asInt .i64 ((nth x84.2.t 35))).bind fun x181 =>
            (unconsO x84.2.h).bind fun x182 =>
            (asObCells x182.1).bind fun x183 =>
            (uncons x183).bind fun x184 =>
            (asInt .i64 (x184.1)).bind fun x185 =>
            (isNil x184.2).bind fun x186 =>
            (unconsO x182.2).bind fun x187 =>
            (asObCells x187.1).bind fun x188 =>
            (uncons x188).bind fun x189 =>
            (asInt .i64 (x189.1)).bind fun x190 =>
            (uncons x189.2).bind fun x191 =>
            (asInt .i64 (x191.1)).bind fun x192 =>
            (isNil x191.2).bind fun x193 =>
            (unconsO x187.2).bind fun x194 =>
            (asObCells x194.1).bind fun x195 =>
            (uncons x195).bind fun x196 =>
            (asInt .i64 (x196.1)).bind fun x197 =>
            (uncons x196.2).bind fun x198 =>
            (asInt .i64 (x198.1)).bind fun x199 =>
            (isNil x198.2).bind fun x200 =>
            (unconsO x194.2).bind fun x201 =>
            (asObCells x201.1).bind fun x202 =>
            (uncons x202).bind fun x203 =>
            (asBool (x203.1)).bind fun x204 =>
            (isNil x203.2).bind fun x205 =>
            (unconsO x201.2).bind fun x206 =>
            (asObCells x206.1).bind fun x207 =>
            (uncons x207).bind fun x208 =>
            (asFn (.func 65) (x208.1)).bind fun x209 =>
            (isNil x209.1).bind fun x210 =>
            (uncons x209.2).bind fun x211 =>
            (asPtr 2 0 (x211.1)).bind fun x212 =>
            (isNil x211.2).bind fun x213 =>
            (isNil x208.2).bind fun x214 =>
            (unconsO x206.2).bind fun x215 =>
            (asObCells x215.1).bind fun x216 =>
            (uncons x216).bind fun x217 =>
            (asRows (x217.1)).bind fun x218 =>
            (isNil x217.2).bind fun x219 =>
            (unconsO x215.2).bind fun x220 =>
            (asObCells x220.1).bind fun x221 =>
            (uncons x221).bind fun x222 =>
            (asRows (x222.1)).bind fun x223 =>
            (isNil x222.2).bind fun x224 =>
            (unconsO x220.2).bind fun x225 =>
            (asLoop x225.1).bind fun x226 =>
            some (.normal, ⟨(sp 0 63 [(0, .fn (.yield 7) [] []), (2, .ptr 6 0), (4, .int .i64 x161), (9, .slice .any x176), (10, .int .i64 x177), (11, .int .i64 (Go.IntKind.wrap .i64 (x178 + 1)))]), [.cells [.int .i64 x185], .cells [.int .i64 x190, .int .i64 x192], .cells [.int .i64 x197, .int .i64 x199], .cells [.bool x204], .cells [.fn (.func 65) [] [.ptr 2 0]], .cells [.slice .any x218], .cells [.slice .any x223], .loop x226]⟩)) (
            cond (Nat.beq x86 1) (
             (asFn (.yield 7) ((nth x84.2.t 0))).bind fun x87 =>
             (isNil x87.1).bind fun x88 =>
             (isNil x87.2).bind fun x89 =>
             (asPtr 6 0 ((nth x84.2.t 2))).bind fun x90 =>
             (asInt .i64 ((nth x84.2.t 4))).bind fun x91 =>
             (asBox ((nth x84.2.t 6))).bind fun x92 =>
             (uncons x92).bind fun x93 =>
             (asInt .i64 (x93.1)).bind fun x94 =>
             (uncons x93.2).bind fun x95 =>
             (asInt .i64 (x95.1)).bind fun x96 =>
             (uncons x95.2).bind fun x97 =>
             (asRows (x97.1)).bind fun x98 =>
             (uncons x97.2).bind fun x99 =>
             (asRows (x99.1)).bind fun x100 =>
             (uncons x99.2).bind fun x101 =>
             (asRows (x101.1)).bind fun x102 =>
             (uncons x101.2).bind fun x103 =>
             (asRows (x103.1)).bind fun x104 =>
             (isNil x103.2).bind fun x105 =>
             (asRows ((nth x84.2.t 9))).bind fun x106 =>
             (asInt .i64 ((nth x84.2.t 10))).bind fun x107 =>
             (asInt .i64 ((nth x84.2.t 11))).bind fun x108 =>
             (asRows ((nth x84.2.t 33))).bind fun x109 =>
             (asInt .i64 ((nth x84.2.t 34))).bind fun x110 =>
             (asInt .i64 ((nth x84.2.t 35))).bind fun x111 =>
             (unconsO x84.2.h).bind fun x112 =>
             (asObCells x112.1).bind fun x113 =>
             (uncons x113).bind fun x114 =>
             (asInt .i64 (x114.1)).bind fun x115 =>
             (isNil x114.2).bind fun x116 =>
             (unconsO x112.2).bind fun x117 =>
             (asObCells x117.1).bind fun x118 =>
             (uncons x118).bind fun x119 =>
             (asInt .i64 (x119.1)).bind fun x120 =>
             (uncons x119.2).bind fun x121 =>
             (asInt .i64 (x121.1)).bind fun x122 =>
             (isNil x121.2).bind fun x123 =>
             (unconsO x117.2).bind fun x124 =>
             (asObCells x124.1).bind fun x125 =>
             (uncons x125).bind fun x126 =>
             (asInt .i64 (x126.1)).bind fun x127 =>
             (uncons x126.2).bind fun x128 =>
             (asInt .i64 (x128.1)).bind fun x129 =>
             (isNil x128.2).bind fun x130 =>
             (unconsO x124.2).bind fun x131 =>
             (asObCells x131.1).bind fun x132 =>
             (uncons x132).bind fun x133 =>
             (asBool (x133.1)).bind fun x134 =>
             (isNil x133.2).bind fun x135 =>
             (unconsO x131.2).bind fun x136 =>
             (asObCells x136.1).bind fun x137 =>
             (uncons x137).bind fun x138 =>
             (asFn (.func 65) (x138.1)).bind fun x139 =>
             (isNil x139.1).bind fun x140 =>
             (uncons x139.2).bind fun x141 =>
             (asPtr 2 0 (x141.1)).bind fun x142 =>
             (isNil x141.2).bind fun x143 =>
             (isNil x138.2).bind fun x144 =>
             (unconsO x136.2).bind fun x145 =>
             (asObCells x145.1).bind fun x146 =>
             (uncons x146).bind fun x147 =>
             (asRows (x147.1)).bind fun x148 =>
             (isNil x147.2).bind fun x149 =>
             (unconsO x145.2).bind fun x150 =>
             (asObCells x150.1).bind fun x151 =>
             (uncons x151).bind fun x152 =>
             (asRows (x152.1)).bind fun x153 =>
             (isNil x152.2).bind fun x154 =>
             (unconsO x150.2).bind fun x155 =>
             (asLoop x155.1).bind fun x156 =>
             some (.normal, ⟨(sp 0 63 [(0, .fn (.yield 7) [] []), (2, .ptr 6 0), (4, .int .i64 x91), (9, .slice .any x106), (10, .int .i64 x107), (11, .int .i64 (Go.IntKind.wrap .i64 (x108 + 1)))]), [.cells [.int .i64 x115], .cells [.int .i64 x120, .int .i64 x122], .cells [.int .i64 x127, .int .i64 x129], .cells [.bool x134], .cells [.fn (.func 65) [] [.ptr 2 0]], .cells [.slice .any x148], .cells [.slice .any x153], .loop x156]⟩)) (
             none))
         | .ret =>
           (asFn (.yield 7) ((nth x84.2.t 0))).bind fun x227 =>
           (isNil x227.1).bind fun x228 =>
           (isNil x227.2).bind fun x229 =>
           (asPtr 6 0 ((nth x84.2.t 2))).bind fun x230 =>
           (asInt .i64 ((nth x84.2.t 4))).bind fun x231 =>
           (asBox ((nth x84.2.t 6))).bind fun x232 =>
           (uncons x232).bind fun x233 =>
           (asInt .i64 (x233.1)).bind fun x234 =>
           (uncons x233.2).bind fun x235 =>
           (asInt .i64 (x235.1)).bind fun x236 =>
           (uncons x235.2).bind fun x237 =>
           (asRows (x237.1)).bind fun x238 =>
           (uncons x237.2).bind fun x239 =>
           (asRows (x239.1)).bind fun x240 =>
           (uncons x239.2).bind fun x241 =>
           (asRows (x241.1)).bind fun x242 =>
           (uncons x241.2).bind fun x243 =>
           (asRows (x243.1)).bind fun x244 =>
           (isNil x243.2).bind fun x245 =>
           (asRows ((nth x84.2.t 9))).bind fun x246 =>
           (asInt .i64 ((nth x84.2.t 10))).bind fun x247 =>
           (asInt .i64 ((nth x84.2.t 11))).bind fun x248 =>
           (asRows ((nth x84.2.t 33))).bind fun x249 =>
           (asInt .i64 ((nth x84.2.t 34))).bind fun x250 =>
           (asInt .i64 ((nth x84.2.t 35))).bind fun x251 =>
           (unconsO x84.2.h).bind fun x252 =>
           (asObCells x252.1).bind fun x253 =>
           (uncons x253).bind fun x254 =>
           (asInt .i64 (x254.1)).bind fun x255 =>
           (isNil x254.2).bind fun x256 =>
           (unconsO x252.2).bind fun x257 =>
           (asObCells x257.1).bind fun x258 =>
           (uncons x258).bind fun x259 =>
           (asInt .i64 (x259.1)).bind fun x260 =>
           (uncons x259.2).bind fun x261 =>
           (asInt .i64 (x261.1)).bind fun x262 =>
           (isNil x261.2).bind fun x263 =>
           (unconsO x257.2).bind fun x264 =>
           (asObCells x264.1).bind fun x265 =>
           (uncons x265).bind fun x266 =>
           (asInt .i64 (x266.1)).bind fun x267 =>
           (uncons x266.2).bind fun x268 =>
           (asInt .i64 (x268.1)).bind fun x269 =>
           (isNil x268.2).bind fun x270 =>
           (unconsO x264.2).bind fun x271 =>
           (asObCells x271.1).bind fun x272 =>
           (uncons x272).bind fun x273 =>
           (asBool (x273.1)).bind fun x274 =>
           (isNil x273.2).bind fun x275 =>
           (unconsO x271.2).bind fun x276 =>
           (asObCells x276.1).bind fun x277 =>
           (uncons x277).bind fun x278 =>
           (asFn (.func 65) (x278.1)).bind fun x279 =>
           (isNil x279.1).bind fun x280 =>
           (uncons x279.2).bind fun x281 =>
           (asPtr 2 0 (x281.1)).bind fun x282 =>
           (isNil x281.2).bind fun x283 =>
           (isNil x278.2).bind fun x284 =>
           (unconsO x276.2).bind fun x285 =>
           (asObCells x285.1).bind fun x286 =>
           (uncons x286).bind fun x287 =>
           (asRows (x287.1)).bind fun x288 =>
           (isNil x287.2).bind fun x289 =>
           (unconsO x285.2).bind fun x290 =>
           (asObCells x290.1).bind fun x291 =>
           (uncons x291).bind fun x292 =>
           (asRows (x292.1)).bind fun x293 =>
           (isNil x292.2).bind fun x294 =>
           (unconsO x290.2).bind fun x295 =>
           (asLoop x295.1).bind fun x296 =>
           some (.ret, ⟨(sp 0 63 [(0, .fn (.yield 7) [] []), (2, .ptr 6 0), (4, .int .i64 x231), (9, .slice .any x246), (10, .int .i64 x247), (11, .int .i64 x248)]), [.cells [.int .i64 x255], .cells [.int .i64 x260, .int .i64 x262], .cells [.int .i64 x267, .int .i64 x269], .cells [.bool x274], .cells [.fn (.func 65) [] [.ptr 2 0]], .cells [.slice .any x288], .cells [.slice .any x293], .loop x296]⟩)) (
         none)) (
        none)) (
       none)) (
      none)
   | .ret =>
     none) (
   some ((.exit 0), ⟨(sp 0 63 [(0, .fn (.yield 7) [] []), (2, .ptr 6 0), (4, .int .i64 n9), (9, .slice .any r10), (10, .int .i64 n11), (11, .int .i64 n12)]), [.cells [.int .i64 n0], .cells [.int .i64 n1, .int .i64 n2], .cells [.int .i64 n3, .int .i64 n4], .cells [.bool b5], .cells [.fn (.func 65) [] [.ptr 2 0]], .cells [.slice .any r6], .cells [.slice .any r7], .loop l8]⟩)) := by kernel_rfl

theorem s66 (C : CallT) (n0 : Int) (n1 : Int) (n2 : Int) (n3 : Int) (n4 : Int) (b5 : Bool) (r6 : List (List V)) (r7 : List (List V)) (l8 : LoopA) : run1 Go.Ab.G20 Go.Ab.L20 C (.func 66) [.fn (.yield 7) [] [], .ptr 5 0, .ptr 6 0] [.cells [.int .i64 n0], .cells [.int .i64 n1, .int .i64 n2], .cells [.int .i64 n3, .int .i64 n4], .cells [.bool b5], .cells [.fn (.func 65) [] [.ptr 2 0]], .cells [.slice .any r6], .cells [.slice .any r7], .loop l8] =
  (C.w (roundK Go.Ab.G20 Go.Ab.L20 C 66 none 2) ⟨(sp 0 63 [(0, .fn (.yield 7) [] []), (2, .ptr 6 0), (4, .int .i64 0), (9, .slice .any r6), (10, .int .i64 ((r6.length : Nat) : Int)), (11, .int .i64 0)]), [.cells [.int .i64 n0], .cells [.int .i64 n1, .int .i64 n2], .cells [.int .i64 n3, .int .i64 n4], .cells [.bool b5], .cells [.fn (.func 65) [] [.ptr 2 0]], .cells [.slice .any r6], .cells [.slice .any r7], .loop l8]⟩).bind fun x0 =>
  match x0.1 with
  | .normal =>
    none
  | .exit x2 =>
    cond (Nat.beq x2 0) (
     (asFn (.yield 7) ((nth x0.2.t 0))).bind fun x3 =>
     (isNil x3.1).bind fun x4 =>
     (isNil x3.2).bind fun x5 =>
     (asPtr 6 0 ((nth x0.2.t 2))).bind fun x6 =>
     (asInt .i64 ((nth x0.2.t 4))).bind fun x7 =>
     (asRows ((nth x0.2.t 9))).bind fun x8 =>
     (asInt .i64 ((nth x0.2.t 10))).bind fun x9 =>
     (asInt .i64 ((nth x0.2.t 11))).bind fun x10 =>
     (unconsO x0.2.h).bind fun x11 =>
     (asObCells x11.1).bind fun x12 =>
     (uncons x12).bind fun x13 =>
     (asInt .i64 (x13.1)).bind fun x14 =>
     (isNil x13.2).bind fun x15 =>
     (unconsO x11.2).bind fun x16 =>
     (asObCells x16.1).bind fun x17 =>
     (uncons x17).bind fun x18 =>
     (asInt .i64 (x18.1)).bind fun x19 =>
     (uncons x18.2).bind fun x20 =>
     (asInt .i64 (x20.1)).bind fun x21 =>
     (isNil x20.2).bind fun x22 =>
     (unconsO x16.2).bind fun x23 =>
     (asObCells x23.1).bind fun x24 =>
     (uncons x24).bind fun x25 =>
     (asInt .i64 (x25.1)).bind fun x26 =>
     (uncons x25.2).bind fun x27 =>
     (asInt .i64 (x27.1)).bind fun x28 =>
     (isNil x27.2).bind fun x29 =>
     (unconsO x23.2).bind fun x30 =>
     (asObCells x30.1).bind fun x31 =>
     (uncons x31).bind fun x32 =>
     (asBool (x32.1)).bind fun x33 =>
     (isNil x32.2).bind fun x34 =>
     (unconsO x30.2).bind fun x35 =>
     (asObCells x35.1).bind fun x36 =>
     (uncons x36).bind fun x37 =>
     (asFn (.func 65) (x37.1)).bind fun x38 =>
     (isNil x38.1).bind fun x39 =>
     (uncons x38.2).bind fun x40 =>
     (asPtr 2 0 (x40.1)).bind fun x41 =>
     (isNil x40.2).bind fun x42 =>
     (isNil x37.2).bind fun x43 =>
     (unconsO x35.2).bind fun x44 =>
     (asObCells x44.1).bind fun x45 =>
     (uncons x45).bind fun x46 =>
     (asRows (x46.1)).bind fun x47 =>
     (isNil x46.2).bind fun x48 =>
     (unconsO x44.2).bind fun x49 =>
     (asObCells x49.1).bind fun x50 =>
     (uncons x50).bind fun x51 =>
     (asRows (x51.1)).bind fun x52 =>
     (isNil x51.2).bind fun x53 =>
     (unconsO x49.2).bind fun x54 =>
     (asLoop x54.1).bind fun x55 =>
     some (.tuple [], [.cells [.int .i64 x14], .cells [.int .i64 x19, .int .i64 x21], .cells [.int .i64 x26, .int .i64 x28], .cells [.bool x33], .cells [.fn (.func 65) [] [.ptr 2 0]], .cells [.slice .any x47], .cells [.slice .any x52], .loop x55])) (
     none)
  | .ret =>
    (asFn (.yield 7) ((nth x0.2.t 0))).bind fun x56 =>
    (isNil x56.1).bind fun x57 =>
    (isNil x56.2).bind fun x58 =>
    (asPtr 6 0 ((nth x0.2.t 2))).bind fun x59 =>
    (asInt .i64 ((nth x0.2.t 4))).bind fun x60 =>
    (asRows ((nth x0.2.t 9))).bind fun x61 =>
    (asInt .i64 ((nth x0.2.t 10))).bind fun x62 =>
    (asInt .i64 ((nth x0.2.t 11))).bind fun x63 =>
    (unconsO x0.2.h).bind fun x64 =>
    (asObCells x64.1).bind fun x65 =>
    (uncons x65).bind fun x66 =>
    (asInt .i64 (x66.1)).bind fun x67 =>
    (isNil x66.2).bind fun x68 =>
    (unconsO x64.2).bind fun x69 =>
    (asObCells x69.1).bind fun x70 =>
    (uncons x70).bind fun x71 =>
    (asInt .i64 (x71.1)).bind fun x72 =>
    (uncons x71.2).bind fun x73 =>
    (asInt .i64 (x73.1)).bind fun x74 =>
    (isNil x73.2).bind fun x75 =>
    (unconsO x69.2).bind fun x76 =>
    (asObCells x76.1).bind fun x77 =>
    (uncons x77).bind fun x78 =>
    (asInt .i64 (x78.1)).bind fun x79 =>
    (uncons x78.2).bind fun x80 =>
    (asInt .i64 (x80.1)).bind fun x81 =>
    (isNil x80.2).bind fun x82 =>
    (unconsO x76.2).bind fun x83 =>
    (asObCells x83.1).bind fun x84 =>
    (uncons x84).bind fun x85 =>
    (asBool (x85.1)).bind fun x86 =>
    (isNil x85.2).bind fun x87 =>
    (unconsO x83.2).bind fun x88 =>
    (asObCells x88.1).bind fun x89 =>
    (uncons x89).bind fun x90 =>
    (asFn (.func 65) (x90.1)).bind fun x91 =>
    (isNil x91.1).bind fun x92 =>
    (uncons x91.2).bind fun x93 =>
    (asPtr 2 0 (x93.1)).bind fun x94 =>
    (isNil x93.2).bind fun x95 =>
    (isNil x90.2).bind fun x96 =>
    (unconsO x88.2).bind fun x97 =>
    (asObCells x97.1).bind fun x98 =>
    (uncons x98).bind fun x99 =>
    (asRows (x99.1)).bind fun x100 =>
    (isNil x99.2).bind fun x101 =>
    (unconsO x97.2).bind fun x102 =>
    (asObCells x102.1).bind fun x103 =>
    (uncons x103).bind fun x104 =>
    (asRows (x104.1)).bind fun x105 =>
    (isNil x104.2).bind fun x106 =>
    (unconsO x102.2).bind fun x107 =>
    (asLoop x107.1).bind fun x108 =>
    some (.tuple [], [.cells [.int .i64 x67], .cells [.int .i64 x72, .int .i64 x74], .cells [.int .i64 x79, .int .i64 x81], .cells [.bool x86], .cells [.fn (.func 65) [] [.ptr 2 0]], .cells [.slice .any x100], .cells [.slice .any x105], .loop x108]) := by kernel_rfl

theorem s40 (C : CallT) (n0 : Int) (n1 : Int) (n2 : Int) (n3 : Int) (n4 : Int) (b5 : Bool) (r6 : List (List V)) (r7 : List (List V)) : run1 Go.Ab.G20 Go.Ab.L20 C (.func 40) [.slice .any r6, .slice .any r7] [.cells [.int .i64 n0], .cells [.int .i64 n1, .int .i64 n2], .cells [.int .i64 n3, .int .i64 n4], .cells [.bool b5], .cells [.fn (.func 65) [] [.ptr 2 0]]] =
  some (.fn (.func 66) [] [.ptr 5 0, .ptr 6 0], [.cells [.int .i64 n0], .cells [.int .i64 n1, .int .i64 n2], .cells [.int .i64 n3, .int .i64 n4], .cells [.bool b5], .cells [.fn (.func 65) [] [.ptr 2 0]], .cells [.slice .any r6], .cells [.slice .any r7]]) := by kernel_rfl

theorem s39 (C : CallT) (n0 : Int) (n1 : Int) (n2 : Int) : run1 Go.Ab.G20 Go.Ab.L20 C (.func 39) [] [.cells [.int .i64 n0], .cells [.int .i64 n1, .int .i64 n2]] =
  some (.fn (.func 65) [] [.ptr 2 0], [.cells [.int .i64 n0], .cells [.int .i64 n1, .int .i64 n2], .cells [.int .i64 2147483648, .int .i64 2147483648]]) := by kernel_rfl

theorem e15 (C : CallT) (r0 : List (List V)) (r1 : List (List V)) (n2 : Int) : run1 Go.Ab.G20 Go.Ab.L20 C (.func 15) [.slice .any r0, .slice .any r1, .int .i64 n2] [] =
  (C.s (.func 39) [] [.cells [.int .i64 n2], .cells [.int .i64 0, .int .i64 0]]).bind fun x0 =>
  (asFn (.func 65) (x0.1)).bind fun x1 =>
  (isNil x1.1).bind fun x2 =>
  (uncons x1.2).bind fun x3 =>
  (asPtr 2 0 (x3.1)).bind fun x4 =>
  (isNil x3.2).bind fun x5 =>
  (unconsO x0.2).bind fun x6 =>
  (asObCells x6.1).bind fun x7 =>
  (uncons x7).bind fun x8 =>
  (asInt .i64 (x8.1)).bind fun x9 =>
  (isNil x8.2).bind fun x10 =>
  (unconsO x6.2).bind fun x11 =>
  (asObCells x11.1).bind fun x12 =>
  (uncons x12).bind fun x13 =>
  (asInt .i64 (x13.1)).bind fun x14 =>
  (uncons x13.2).bind fun x15 =>
  (asInt .i64 (x15.1)).bind fun x16 =>
  (isNil x15.2).bind fun x17 =>
  (unconsO x11.2).bind fun x18 =>
  (asObCells x18.1).bind fun x19 =>
  (uncons x19).bind fun x20 =>
  (asInt .i64 (x20.1)).bind fun x21 =>
  (uncons x20.2).bind fun x22 =>
  (asInt .i64 (x22.1)).bind fun x23 =>
  (isNil x22.2).bind fun x24 =>
  (C.s (.func 40) [.slice .any r0, .slice .any r1] [.cells [.int .i64 x9], .cells [.int .i64 x14, .int .i64 x16], .cells [.int .i64 x21, .int .i64 x23], .cells [.bool false], .cells [.fn (.func 65) [] [.ptr 2 0]]]).bind fun x25 =>
  (asFn (.func 66) (x25.1)).bind fun x26 =>
  (isNil x26.1).bind fun x27 =>
  (uncons x26.2).bind fun x28 =>
  (asPtr 5 0 (x28.1)).bind fun x29 =>
  (uncons x28.2).bind fun x30 =>
  (asPtr 6 0 (x30.1)).bind fun x31 =>
  (isNil x30.2).bind fun x32 =>
  (unconsO x25.2).bind fun x33 =>
  (asObCells x33.1).bind fun x34 =>
  (uncons x34).bind fun x35 =>
  (asInt .i64 (x35.1)).bind fun x36 =>
  (isNil x35.2).bind fun x37 =>
  (unconsO x33.2).bind fun x38 =>
  (asObCells x38.1).bind fun x39 =>
  (uncons x39).bind fun x40 =>
  (asInt .i64 (x40.1)).bind fun x41 =>
  (uncons x40.2).bind fun x42 =>
  (asInt .i64 (x42.1)).bind fun x43 =>
  (isNil x42.2).bind fun x44 =>
  (unconsO x38.2).bind fun x45 =>
  (asObCells x45.1).bind fun x46 =>
  (uncons x46).bind fun x47 =>
  (asInt .i64 (x47.1)).bind fun x48 =>
  (uncons x47.2).bind fun x49 =>
  (asInt .i64 (x49.1)).bind fun x50 =>
  (isNil x49.2).bind fun x51 =>
  (unconsO x45.2).bind fun x52 =>
  (asObCells x52.1).bind fun x53 =>
  (uncons x53).bind fun x54 =>
  (asBool (x54.1)).bind fun x55 =>
  (isNil x54.2).bind fun x56 =>
  (unconsO x52.2).bind fun x57 =>
  (asObCells x57.1).bind fun x58 =>
  (uncons x58).bind fun x59 =>
  (asFn (.func 65) (x59.1)).bind fun x60 =>
  (isNil x60.1).bind fun x61 =>
  (uncons x60.2).bind fun x62 =>
  (asPtr 2 0 (x62.1)).bind fun x63 =>
  (isNil x62.2).bind fun x64 =>
  (isNil x59.2).bind fun x65 =>
  (unconsO x57.2).bind fun x66 =>
  (asObCells x66.1).bind fun x67 =>
  (uncons x67).bind fun x68 =>
  (asRows (x68.1)).bind fun x69 =>
  (isNil x68.2).bind fun x70 =>
  (unconsO x66.2).bind fun x71 =>
  (asObCells x71.1).bind fun x72 =>
  (uncons x72).bind fun x73 =>
  (asRows (x73.1)).bind fun x74 =>
  (isNil x73.2).bind fun x75 =>
  (C.s (.func 66) [.fn (.yield 7) [] [], .ptr 5 0, .ptr 6 0] [.cells [.int .i64 x36], .cells [.int .i64 x41, .int .i64 x43], .cells [.int .i64 x48, .int .i64 x50], .cells [.bool x55], .cells [.fn (.func 65) [] [.ptr 2 0]], .cells [.slice .any x69], .cells [.slice .any x74], .loop ⟨.ready, none, (sp 0 38 [(0, .slice .any r0), (1, .slice .any r1), (2, .int .i64 n2), (5, .ptr 0 0), (7, .bool false), (8, .ptr 1 0), (9, .ptr 3 0), (10, .ptr 4 0), (12, .fn (.func 65) [] [.ptr 2 0]), (13, .slice .any r0), (14, .slice .any r1), (15, .fn (.func 66) [] [.ptr 5 0, .ptr 6 0])]), 15, [16], rangeAssign GP 15 5, rangeBody GP 15 5⟩]).bind fun x76 =>
  (unconsO x76.2).bind fun x77 =>
  (asObCells x77.1).bind fun x78 =>
  (uncons x78).bind fun x79 =>
  (asInt .i64 (x79.1)).bind fun x80 =>
  (isNil x79.2).bind fun x81 =>
  (unconsO x77.2).bind fun x82 =>
  (asObCells x82.1).bind fun x83 =>
  (uncons x83).bind fun x84 =>
  (asInt .i64 (x84.1)).bind fun x85 =>
  (uncons x84.2).bind fun x86 =>
  (asInt .i64 (x86.1)).bind fun x87 =>
  (isNil x86.2).bind fun x88 =>
  (unconsO x82.2).bind fun x89 =>
  (asObCells x89.1).bind fun x90 =>
  (uncons x90).bind fun x91 =>
  (asInt .i64 (x91.1)).bind fun x92 =>
  (uncons x91.2).bind fun x93 =>
  (asInt .i64 (x93.1)).bind fun x94 =>
  (isNil x93.2).bind fun x95 =>
  (unconsO x89.2).bind fun x96 =>
  (asObCells x96.1).bind fun x97 =>
  (uncons x97).bind fun x98 =>
  (asBool (x98.1)).bind fun x99 =>
  (isNil x98.2).bind fun x100 =>
  (unconsO x96.2).bind fun x101 =>
  (asObCells x101.1).bind fun x102 =>
  (uncons x102).bind fun x103 =>
  (asFn (.func 65) (x103.1)).bind fun x104 =>
  (isNil x104.1).bind fun x105 =>
  (uncons x104.2).bind fun x106 =>
  (asPtr 2 0 (x106.1)).bind fun x107 =>
  (isNil x106.2).bind fun x108 =>
  (isNil x103.2).bind fun x109 =>
  (unconsO x101.2).bind fun x110 =>
  (asObCells x110.1).bind fun x111 =>
  (uncons x111).bind fun x112 =>
  (asRows (x112.1)).bind fun x113 =>
  (isNil x112.2).bind fun x114 =>
  (unconsO x110.2).bind fun x115 =>
  (asObCells x115.1).bind fun x116 =>
  (uncons x116).bind fun x117 =>
  (asRows (x117.1)).bind fun x118 =>
  (isNil x117.2).bind fun x119 =>
  (unconsO x115.2).bind fun x120 =>
  (asLoop x120.1).bind fun x121 =>
  (endOf x121).bind fun x122 =>
  match x122 with
  | none =>
    cond (!x99) (
     some (.tuple [.agg [.int .i64 x85, .int .i64 x87], .bool false], [.cells [.int .i64 x80], .cells [.int .i64 x85, .int .i64 x87], .cells [.int .i64 x92, .int .i64 x94], .cells [.bool x99], .cells [.fn (.func 65) [] [.ptr 2 0]], .cells [.slice .any x113], .cells [.slice .any x118]])) (
     (C.p (.func 36) [.int .i64 x85, .int .i64 x87]).bind fun x124 =>
     (asCells (x124)).bind fun x125 =>
     (uncons x125).bind fun x126 =>
     (asInt .i64 (x126.1)).bind fun x127 =>
     (uncons x126.2).bind fun x128 =>
     (asInt .i64 (x128.1)).bind fun x129 =>
     (isNil x128.2).bind fun x130 =>
     some (.tuple [.agg [.int .i64 x127, .int .i64 x129], .bool true], [.cells [.int .i64 x80], .cells [.int .i64 x85, .int .i64 x87], .cells [.int .i64 x92, .int .i64 x94], .cells [.bool x99], .cells [.fn (.func 65) [] [.ptr 2 0]], .cells [.slice .any x113], .cells [.slice .any x118]]))
  | some x123 =>
    match x123 with
    | .normal =>
      none
    | .exit x132 =>
      none
    | .ret =>
      none := by kernel_rfl

theorem e23 (C : CallT) (n0 : Int) (n1 : Int) (n2 : Int) (n3 : Int) : run1 Go.Ab.G20 Go.Ab.L20 C (.func 23) [.agg [.int .i64 n0, .int .i64 n1], .agg [.int .i64 n2, .int .i64 n3]] [] =
  cond (decide ((if n2 > n0 then n2 else n0) > (if n3 < n1 then n3 else n1))) (
   some (.tuple [.agg [.int .i64 0, .int .i64 0], .bool false], [])) (
   some (.tuple [.agg [.int .i64 (if n2 > n0 then n2 else n0), .int .i64 (if n3 < n1 then n3 else n1)], .bool true], [])) := by kernel_rfl

theorem e14 (C : CallT) (r0 : List (List V)) (r1 : List (List V)) : run1 Go.Ab.G20 Go.Ab.L20 C (.func 14) [.slice .any r0, .slice .any r1] [] =
  cond (((r0.length : Nat) : Int) == 0) (
   some (.tuple [.agg [.int .i64 0, .int .i64 0], .bool false], [])) (
   cond (((r1.length : Nat) : Int) == 0) (
    some (.tuple [.agg [.int .i64 0, .int .i64 0], .bool false], [])) (
    (getRow r0 0 6).bind fun x0 =>
    (uncons x0).bind fun x1 =>
    (asInt .i64 (x1.1)).bind fun x2 =>
    (uncons x1.2).bind fun x3 =>
    (asInt .i64 (x3.1)).bind fun x4 =>
    (uncons x3.2).bind fun x5 =>
    (asRows (x5.1)).bind fun x6 =>
    (uncons x5.2).bind fun x7 =>
    (asRows (x7.1)).bind fun x8 =>
    (uncons x7.2).bind fun x9 =>
    (asRows (x9.1)).bind fun x10 =>
    (uncons x9.2).bind fun x11 =>
    (asRows (x11.1)).bind fun x12 =>
    (isNil x11.2).bind fun x13 =>
    (getRow r0 (Go.IntKind.wrap .i64 (((r0.length : Nat) : Int) - 1)) 6).bind fun x14 =>
    (uncons x14).bind fun x15 =>
    (asInt .i64 (x15.1)).bind fun x16 =>
    (uncons x15.2).bind fun x17 =>
    (asInt .i64 (x17.1)).bind fun x18 =>
    (uncons x17.2).bind fun x19 =>
    (asRows (x19.1)).bind fun x20 =>
    (uncons x19.2).bind fun x21 =>
    (asRows (x21.1)).bind fun x22 =>
    (uncons x21.2).bind fun x23 =>
    (asRows (x23.1)).bind fun x24 =>
    (uncons x23.2).bind fun x25 =>
    (asRows (x25.1)).bind fun x26 =>
    (isNil x25.2).bind fun x27 =>
    (getRow r0 (Go.IntKind.wrap .i64 (((r0.length : Nat) : Int) - 1)) 6).bind fun x28 =>
    (uncons x28).bind fun x29 =>
    (asInt .i64 (x29.1)).bind fun x30 =>
    (uncons x29.2).bind fun x31 =>
    (asInt .i64 (x31.1)).bind fun x32 =>
    (uncons x31.2).bind fun x33 =>
    (asRows (x33.1)).bind fun x34 =>
    (uncons x33.2).bind fun x35 =>
    (asRows (x35.1)).bind fun x36 =>
    (uncons x35.2).bind fun x37 =>
    (asRows (x37.1)).bind fun x38 =>
    (uncons x37.2).bind fun x39 =>
    (asRows (x39.1)).bind fun x40 =>
    (isNil x39.2).bind fun x41 =>
    (getRow r1 0 6).bind fun x42 =>
    (uncons x42).bind fun x43 =>
    (asInt .i64 (x43.1)).bind fun x44 =>
    (uncons x43.2).bind fun x45 =>
    (asInt .i64 (x45.1)).bind fun x46 =>
    (uncons x45.2).bind fun x47 =>
    (asRows (x47.1)).bind fun x48 =>
    (uncons x47.2).bind fun x49 =>
    (asRows (x49.1)).bind fun x50 =>
    (uncons x49.2).bind fun x51 =>
    (asRows (x51.1)).bind fun x52 =>
    (uncons x51.2).bind fun x53 =>
    (asRows (x53.1)).bind fun x54 =>
    (isNil x53.2).bind fun x55 =>
    (getRow r1 (Go.IntKind.wrap .i64 (((r1.length : Nat) : Int) - 1)) 6).bind fun x56 =>
    (uncons x56).bind fun x57 =>
    (asInt .i64 (x57.1)).bind fun x58 =>
    (uncons x57.2).bind fun x59 =>
    (asInt .i64 (x59.1)).bind fun x60 =>
    (uncons x59.2).bind fun x61 =>
    (asRows (x61.1)).bind fun x62 =>
    (uncons x61.2).bind fun x63 =>
    (asRows (x63.1)).bind fun x64 =>
    (uncons x63.2).bind fun x65 =>
    (asRows (x65.1)).bind fun x66 =>
    (uncons x65.2).bind fun x67 =>
    (asRows (x67.1)).bind fun x68 =>
    (isNil x67.2).bind fun x69 =>
    (getRow r1 (Go.IntKind.wrap .i64 (((r1.length : Nat) : Int) - 1)) 6).bind fun x70 =>
    (uncons x70).bind fun x71 =>
    (asInt .i64 (x71.1)).bind fun x72 =>
    (uncons x71.2).bind fun x73 =>
    (asInt .i64 (x73.1)).bind fun x74 =>
    (uncons x73.2).bind fun x75 =>
    (asRows (x75.1)).bind fun x76 =>
    (uncons x75.2).bind fun x77 =>
    (asRows (x77.1)).bind fun x78 =>
    (uncons x77.2).bind fun x79 =>
    (asRows (x79.1)).bind fun x80 =>
    (uncons x79.2).bind fun x81 =>
    (asRows (x81.1)).bind fun x82 =>
    (isNil x81.2).bind fun x83 =>
    (C.p (.func 23) [.agg [.int .i64 x2, .int .i64 (Go.IntKind.wrap .i64 (x16 + x32))], .agg [.int .i64 x44, .int .i64 (Go.IntKind.wrap .i64 (x58 + x74))]]).bind fun x84 =>
    (asTuple (x84)).bind fun x85 =>
    (uncons x85).bind fun x86 =>
    (asCells (x86.1)).bind fun x87 =>
    (uncons x87).bind fun x88 =>
    (asInt .i64 (x88.1)).bind fun x89 =>
    (uncons x88.2).bind fun x90 =>
    (asInt .i64 (x90.1)).bind fun x91 =>
    (isNil x90.2).bind fun x92 =>
    (uncons x86.2).bind fun x93 =>
    (asBool (x93.1)).bind fun x94 =>
    (isNil x93.2).bind fun x95 =>
    some (.tuple [.agg [.int .i64 x89, .int .i64 x91], .bool x94], []))) := by kernel_rfl

theorem e37 (C : CallT) (n0 : Int) (n1 : Int) (r2 : List (List V)) (r3 : List (List V)) (r4 : List (List V)) (r5 : List (List V)) : run1 Go.Ab.G20 Go.Ab.L20 C (.func 37) [.agg [.int .i64 n0, .int .i64 n1, .slice .any r2, .slice .any r3, .slice .any r4, .slice .any r5]] [] =
  some (.int .i64 (Go.IntKind.wrap .i64 (n0 + n1)), []) := by kernel_rfl

theorem e63 (C : CallT)  : run1 Go.Ab.G20 Go.Ab.L20 C (.func 63) [] [] =
  some (.agg [.int .i64 (-2147483648), .int .i64 2147483648], []) := by kernel_rfl

theorem e36 (C : CallT) (n0 : Int) (n1 : Int) : run1 Go.Ab.G20 Go.Ab.L20 C (.func 36) [.int .i64 n0, .int .i64 n1] [] =
  cond (decide (n0 ≤ (-2147483648))) (
   (C.p (.func 63) []).bind fun x21 =>
   (asCells (x21)).bind fun x22 =>
   (uncons x22).bind fun x23 =>
   (asInt .i64 (x23.1)).bind fun x24 =>
   (uncons x23.2).bind fun x25 =>
   (asInt .i64 (x25.1)).bind fun x26 =>
   (isNil x25.2).bind fun x27 =>
   some (.agg [.int .i64 x24, .int .i64 x26], [])) (
   cond (decide (n1 ≥ 2147483648)) (
    (C.p (.func 63) []).bind fun x14 =>
    (asCells (x14)).bind fun x15 =>
    (uncons x15).bind fun x16 =>
    (asInt .i64 (x16.1)).bind fun x17 =>
    (uncons x16.2).bind fun x18 =>
    (asInt .i64 (x18.1)).bind fun x19 =>
    (isNil x18.2).bind fun x20 =>
    some (.agg [.int .i64 x17, .int .i64 x19], [])) (
    cond (decide (n0 ≥ 2147483648)) (
     (C.p (.func 63) []).bind fun x7 =>
     (asCells (x7)).bind fun x8 =>
     (uncons x8).bind fun x9 =>
     (asInt .i64 (x9.1)).bind fun x10 =>
     (uncons x9.2).bind fun x11 =>
     (asInt .i64 (x11.1)).bind fun x12 =>
     (isNil x11.2).bind fun x13 =>
     some (.agg [.int .i64 x10, .int .i64 x12], [])) (
     cond (decide (n1 ≤ (-2147483648))) (
      (C.p (.func 63) []).bind fun x0 =>
      (asCells (x0)).bind fun x1 =>
      (uncons x1).bind fun x2 =>
      (asInt .i64 (x2.1)).bind fun x3 =>
      (uncons x2.2).bind fun x4 =>
      (asInt .i64 (x4.1)).bind fun x5 =>
      (isNil x4.2).bind fun x6 =>
      some (.agg [.int .i64 x3, .int .i64 x5], [])) (
      some (.agg [.int .i64 n0, .int .i64 n1], []))))) := by kernel_rfl

theorem e64 (C : CallT) (b0 : Bool) (n1 : Int) (n2 : Int) (n3 : Int) (n4 : Int) : run1 Go.Ab.G20 Go.Ab.L20 C (.func 64) [.bool b0, .agg [.int .i64 n1, .int .i64 n2], .agg [.int .i64 n3, .int .i64 n4]] [] =
  cond b0 (
   some (.agg [.int .i64 n1, .int .i64 n2], [])) (
   some (.agg [.int .i64 n3, .int .i64 n4], [])) := by kernel_rfl

theorem e38 (C : CallT) (n0 : Int) (n1 : Int) (n2 : Int) (n3 : Int) : run1 Go.Ab.G20 Go.Ab.L20 C (.func 38) [.agg [.int .i64 n0, .int .i64 n1], .agg [.int .i64 n2, .int .i64 n3]] [] =
  (C.p (.func 64) [.bool (decide ((if n2 > n0 then n2 else n0) ≤ (if n3 < n1 then n3 else n1))), .agg [.int .i64 (if n2 > n0 then n2 else n0), .int .i64 (if n3 < n1 then n3 else n1)], .agg [.int .i64 0, .int .i64 0]]).bind fun x0 =>
  (asCells (x0)).bind fun x1 =>
  (uncons x1).bind fun x2 =>
  (asInt .i64 (x2.1)).bind fun x3 =>
  (uncons x2.2).bind fun x4 =>
  (asInt .i64 (x4.1)).bind fun x5 =>
  (isNil x4.2).bind fun x6 =>
  some (.tuple [.agg [.int .i64 x3, .int .i64 x5], .bool (decide ((if n2 > n0 then n2 else n0) ≤ (if n3 < n1 then n3 else n1)))], []) := by kernel_rfl

theorem e13 (C : CallT) (r0 : List (List V)) (r1 : List (List V)) : run1 Go.Ab.G20 Go.Ab.L20 C (.func 13) [.slice .any r0, .slice .any r1] [] =
  cond (((r0.length : Nat) : Int) == 0) (
   some (.tuple [.agg [.int .i64 0, .int .i64 0], .bool false], [])) (
   cond (((r1.length : Nat) : Int) == 0) (
    some (.tuple [.agg [.int .i64 0, .int .i64 0], .bool false], [])) (
    (getRow r0 0 6).bind fun x0 =>
    (uncons x0).bind fun x1 =>
    (asInt .i64 (x1.1)).bind fun x2 =>
    (uncons x1.2).bind fun x3 =>
    (asInt .i64 (x3.1)).bind fun x4 =>
    (uncons x3.2).bind fun x5 =>
    (asRows (x5.1)).bind fun x6 =>
    (uncons x5.2).bind fun x7 =>
    (asRows (x7.1)).bind fun x8 =>
    (uncons x7.2).bind fun x9 =>
    (asRows (x9.1)).bind fun x10 =>
    (uncons x9.2).bind fun x11 =>
    (asRows (x11.1)).bind fun x12 =>
    (isNil x11.2).bind fun x13 =>
    (getRow r0 (Go.IntKind.wrap .i64 (((r0.length : Nat) : Int) - 1)) 6).bind fun x14 =>
    (uncons x14).bind fun x15 =>
    (asInt .i64 (x15.1)).bind fun x16 =>
    (uncons x15.2).bind fun x17 =>
    (asInt .i64 (x17.1)).bind fun x18 =>
    (uncons x17.2).bind fun x19 =>
    (asRows (x19.1)).bind fun x20 =>
    (uncons x19.2).bind fun x21 =>
    (asRows (x21.1)).bind fun x22 =>
    (uncons x21.2).bind fun x23 =>
    (asRows (x23.1)).bind fun x24 =>
    (uncons x23.2).bind fun x25 =>
    (asRows (x25.1)).bind fun x26 =>
    (isNil x25.2).bind fun x27 =>
    (C.p (.func 37) [.agg [.int .i64 x16, .int .i64 x18, .slice .any x20, .slice .any x22, .slice .any x24, .slice .any x26]]).bind fun x28 =>
    (asInt .i64 (x28)).bind fun x29 =>
    (C.p (.func 36) [.int .i64 x2, .int .i64 x29]).bind fun x30 =>
    (asCells (x30)).bind fun x31 =>
    (uncons x31).bind fun x32 =>
    (asInt .i64 (x32.1)).bind fun x33 =>
    (uncons x32.2).bind fun x34 =>
    (asInt .i64 (x34.1)).bind fun x35 =>
    (isNil x34.2).bind fun x36 =>
    (getRow r1 0 6).bind fun x37 =>
    (uncons x37).bind fun x38 =>
    (asInt .i64 (x38.1)).bind fun x39 =>
    (uncons x38.2).bind fun x40 =>
    (asInt .i64 (x40.1)).bind fun x41 =>
    (uncons x40.2).bind fun x42 =>
    (asRows (x42.1)).bind fun x43 =>
    (uncons x42.2).bind fun x44 =>
    (asRows (x44.1)).bind fun x45 =>
    (uncons x44.2).bind fun x46 =>
    (asRows (x46.1)).bind fun x47 =>
    (uncons x46.2).bind fun x48 =>
    (asRows (x48.1)).bind fun x49 =>
    (isNil x48.2).bind fun x50 =>
    (getRow r1 (Go.IntKind.wrap .i64 (((r1.length : Nat) : Int) - 1)) 6).bind fun x51 =>
    (uncons x51).bind fun x52 =>
    (asInt .i64 (x52.1)).bind fun x53 =>
    (uncons x52.2).bind fun x54 =>
    (asInt .i64 (x54.1)).bind fun x55 =>
    (uncons x54.2).bind fun x56 =>
    (asRows (x56.1)).bind fun x57 =>
    (uncons x56.2).bind fun x58 =>
    (asRows (x58.1)).bind fun x59 =>
    (uncons x58.2).bind fun x60 =>
    (asRows (x60.1)).bind fun x61 =>
    (uncons x60.2).bind fun x62 =>
    (asRows (x62.1)).bind fun x63 =>
    (isNil x62.2).bind fun x64 =>
    (C.p (.func 37) [.agg [.int .i64 x53, .int .i64 x55, .slice .any x57, .slice .any x59, .slice .any x61, .slice .any x63]]).bind fun x65 =>
    (asInt .i64 (x65)).bind fun x66 =>
    (C.p (.func 36) [.int .i64 x39, .int .i64 x66]).bind fun x67 =>
    (asCells (x67)).bind fun x68 =>
    (uncons x68).bind fun x69 =>
    (asInt .i64 (x69.1)).bind fun x70 =>
    (uncons x69.2).bind fun x71 =>
    (asInt .i64 (x71.1)).bind fun x72 =>
    (isNil x71.2).bind fun x73 =>
    (C.p (.func 38) [.agg [.int .i64 x33, .int .i64 x35], .agg [.int .i64 x70, .int .i64 x72]]).bind fun x74 =>
    (asTuple (x74)).bind fun x75 =>
    (uncons x75).bind fun x76 =>
    (asCells (x76.1)).bind fun x77 =>
    (uncons x77).bind fun x78 =>
    (asInt .i64 (x78.1)).bind fun x79 =>
    (uncons x78.2).bind fun x80 =>
    (asInt .i64 (x80.1)).bind fun x81 =>
    (isNil x80.2).bind fun x82 =>
    (uncons x76.2).bind fun x83 =>
    (asBool (x83.1)).bind fun x84 =>
    (isNil x83.2).bind fun x85 =>
    some (.tuple [.agg [.int .i64 x79, .int .i64 x81], .bool x84], []))) := by kernel_rfl

theorem e85 (C : CallT) (n0 : Int) (n1 : Int) (n2 : Int) : run1 Go.Ab.G20 Go.Ab.L20 C (.func 85) [.agg [.int .i64 n0, .int .i64 n1], .int .i64 n2] [] =
  cond (n2 == 0) (
   none) (
   cond (n2 == 0) (
    none) (
    some (.agg [.int .i64 (Int.tmod n0 1048576), .int .i64 (Go.IntKind.wrap .i64 ((Int.tmod n0 1048576) + (Int.tmod (Go.IntKind.wrap .i64 ((Int.tmod n1 n2) + n2)) n2)))], []))) := by kernel_rfl

theorem e61_3 (C : CallT) (r0 : List (List V)) (r1 : List (List V)) (n2 : Int) (n3 : Int) : roundK Go.Ab.G20 Go.Ab.L20 C 61 none 3 ⟨(sp 0 29 [(0, .slice .any r1), (1, .int .i64 n2), (5, .arr 0 r0.length 2), (6, .int .i64 n3)]), [.arr true 2 r0]⟩ =
  cond (decide (n3 < n2)) (
   cond (decide (n3 < ((r1.length : Nat) : Int))) (
    (getRow r1 n3 2).bind fun x7 =>
    (uncons x7).bind fun x8 =>
    (asInt .i64 (x8.1)).bind fun x9 =>
    (uncons x8.2).bind fun x10 =>
    (asInt .i64 (x10.1)).bind fun x11 =>
    (isNil x10.2).bind fun x12 =>
    (C.p (.func 85) [.agg [.int .i64 x9, .int .i64 x11], .int .i64 200000]).bind fun x13 =>
    (asCells (x13)).bind fun x14 =>
    (uncons x14).bind fun x15 =>
    (asInt .i64 (x15.1)).bind fun x16 =>
    (uncons x15.2).bind fun x17 =>
    (asInt .i64 (x17.1)).bind fun x18 =>
    (isNil x17.2).bind fun x19 =>
    cond (decide (r0.length = r0.length)) (
     cond (decide (((r0.length + 1) * 16) ≤ room)) (
      some (.normal, ⟨(sp 0 29 [(0, .slice .any r1), (1, .int .i64 n2), (5, .arr 0 (r0.length + 1) 2), (6, .int .i64 (Go.IntKind.wrap .i64 (n3 + 1)))]), [.arr true 2 (List.append r0 [[.int .i64 x16, .int .i64 x18]])]⟩)) (
      none)) (
     none)) (
    (C.p (.func 85) [.agg [.int .i64 0, .int .i64 0], .int .i64 200000]).bind fun x0 =>
    (asCells (x0)).bind fun x1 =>
    (uncons x1).bind fun x2 =>
    (asInt .i64 (x2.1)).bind fun x3 =>
    (uncons x2.2).bind fun x4 =>
    (asInt .i64 (x4.1)).bind fun x5 =>
    (isNil x4.2).bind fun x6 =>
    cond (decide (r0.length = r0.length)) (
     cond (decide (((r0.length + 1) * 16) ≤ room)) (
      some (.normal, ⟨(sp 0 29 [(0, .slice .any r1), (1, .int .i64 n2), (5, .arr 0 (r0.length + 1) 2), (6, .int .i64 (Go.IntKind.wrap .i64 (n3 + 1)))]), [.arr true 2 (List.append r0 [[.int .i64 x3, .int .i64 x5]])]⟩)) (
      none)) (
     none))) (
   some ((.exit 0), ⟨(sp 0 29 [(0, .slice .any r1), (1, .int .i64 n2), (5, .arr 0 r0.length 2), (6, .int .i64 n3)]), [.arr true 2 r0]⟩)) := by kernel_rfl

theorem e61 (C : CallT) (r0 : List (List V)) (n1 : Int) : run1 Go.Ab.G20 Go.Ab.L20 C (.func 61) [.slice .any r0, .int .i64 n1] [] =
  (C.w (roundK Go.Ab.G20 Go.Ab.L20 C 61 none 3) ⟨(sp 0 29 [(0, .slice .any r0), (1, .int .i64 n1), (5, .arr 0 0 2), (6, .int .i64 0)]), [.arr true 2 []]⟩).bind fun x0 =>
  match x0.1 with
  | .normal =>
    none
  | .exit x2 =>
    cond (Nat.beq x2 0) (
     (asRows ((nth x0.2.t 0))).bind fun x3 =>
     (asInt .i64 ((nth x0.2.t 1))).bind fun x4 =>
     (asArr 0 2 ((nth x0.2.t 5))).bind fun x5 =>
     (asInt .i64 ((nth x0.2.t 6))).bind fun x6 =>
     (unconsO x0.2.h).bind fun x7 =>
     (asObArr true 2 x7.1).bind fun x8 =>
     (arrRows [.arr true 2 x8] 0 x5).bind fun x9 =>
     some (.slice .any x9, [.arr false 2 x8])) (
     none)
  | .ret =>
    none := by kernel_rfl

theorem e55 (C : CallT) (n0 : Int) (n1 : Int) (n2 : Int) : run1 Go.Ab.G20 Go.Ab.L20 C (.func 55) [.agg [.int .i64 n0, .int .i64 n1], .int .u32 n2] [] =
  cond ((Go.IntKind.wrap .i64 ((Go.IntKind.wrap .i64 (n1 - n0)) + 1)) == 0) (
   none) (
   some (.int .i64 (Go.IntKind.wrap .i64 (n0 + (Int.tmod (Go.IntKind.wrap .i64 n2) (Go.IntKind.wrap .i64 ((Go.IntKind.wrap .i64 (n1 - n0)) + 1))))), [])) := by kernel_rfl

theorem e62_3 (C : CallT) (r0 : List (List V)) (r1 : List (List V)) (r2 : List (List V)) (n3 : Int) : roundK Go.Ab.G20 Go.Ab.L20 C 62 none 3 ⟨(sp 0 53 [(0, .slice .any r1), (1, .slice .any r2), (5, .arr 0 r0.length 2), (6, .int .i64 n3)]), [.arr true 2 r0]⟩ =
  cond (decide (n3 < ((r1.length : Nat) : Int))) (
   cond (decide (n3 < ((r2.length : Nat) : Int))) (
    (getRow r2 n3 2).bind fun x16 =>
    (uncons x16).bind fun x17 =>
    (asInt .i64 (x17.1)).bind fun x18 =>
    (uncons x17.2).bind fun x19 =>
    (asInt .i64 (x19.1)).bind fun x20 =>
    (isNil x19.2).bind fun x21 =>
    (getRow r1 n3 2).bind fun x22 =>
    (uncons x22).bind fun x23 =>
    (asInt .i64 (x23.1)).bind fun x24 =>
    (uncons x23.2).bind fun x25 =>
    (asInt .i64 (x25.1)).bind fun x26 =>
    (isNil x25.2).bind fun x27 =>
    (C.p (.func 55) [.agg [.int .i64 x24, .int .i64 x26], .int .u32 (Go.IntKind.wrap .u32 x18)]).bind fun x28 =>
    (asInt .i64 (x28)).bind fun x29 =>
    (getRow r1 n3 2).bind fun x30 =>
    (uncons x30).bind fun x31 =>
    (asInt .i64 (x31.1)).bind fun x32 =>
    (uncons x31.2).bind fun x33 =>
    (asInt .i64 (x33.1)).bind fun x34 =>
    (isNil x33.2).bind fun x35 =>
    (C.p (.func 55) [.agg [.int .i64 x32, .int .i64 x34], .int .u32 (Go.IntKind.wrap .u32 x20)]).bind fun x36 =>
    (asInt .i64 (x36)).bind fun x37 =>
    cond (decide (r0.length = r0.length)) (
     cond (decide (((r0.length + 1) * 16) ≤ room)) (
      some (.normal, ⟨(sp 0 53 [(0, .slice .any r1), (1, .slice .any r2), (5, .arr 0 (r0.length + 1) 2), (6, .int .i64 (Go.IntKind.wrap .i64 (n3 + 1)))]), [.arr true 2 (List.append r0 [[.int .i64 (if x37 < x29 then x37 else x29), .int .i64 (if x37 > x29 then x37 else x29)]])]⟩)) (
      none)) (
     none)) (
    (getRow r1 n3 2).bind fun x0 =>
    (uncons x0).bind fun x1 =>
    (asInt .i64 (x1.1)).bind fun x2 =>
    (uncons x1.2).bind fun x3 =>
    (asInt .i64 (x3.1)).bind fun x4 =>
    (isNil x3.2).bind fun x5 =>
    (C.p (.func 55) [.agg [.int .i64 x2, .int .i64 x4], .int .u32 0]).bind fun x6 =>
    (asInt .i64 (x6)).bind fun x7 =>
    (getRow r1 n3 2).bind fun x8 =>
    (uncons x8).bind fun x9 =>
    (asInt .i64 (x9.1)).bind fun x10 =>
    (uncons x9.2).bind fun x11 =>
    (asInt .i64 (x11.1)).bind fun x12 =>
    (isNil x11.2).bind fun x13 =>
    (C.p (.func 55) [.agg [.int .i64 x10, .int .i64 x12], .int .u32 0]).bind fun x14 =>
    (asInt .i64 (x14)).bind fun x15 =>
    cond (decide (r0.length = r0.length)) (
     cond (decide (((r0.length + 1) * 16) ≤ room)) (
      some (.normal, ⟨(sp 0 53 [(0, .slice .any r1), (1, .slice .any r2), (5, .arr 0 (r0.length + 1) 2), (6, .int .i64 (Go.IntKind.wrap .i64 (n3 + 1)))]), [.arr true 2 (List.append r0 [[.int .i64 (if x15 < x7 then x15 else x7), .int .i64 (if x15 > x7 then x15 else x7)]])]⟩)) (
      none)) (
     none))) (
   some ((.exit 0), ⟨(sp 0 53 [(0, .slice .any r1), (1, .slice .any r2), (5, .arr 0 r0.length 2), (6, .int .i64 n3)]), [.arr true 2 r0]⟩)) := by kernel_rfl

theorem e62 (C : CallT) (r0 : List (List V)) (r1 : List (List V)) : run1 Go.Ab.G20 Go.Ab.L20 C (.func 62) [.slice .any r0, .slice .any r1] [] =
  (C.w (roundK Go.Ab.G20 Go.Ab.L20 C 62 none 3) ⟨(sp 0 53 [(0, .slice .any r0), (1, .slice .any r1), (5, .arr 0 0 2), (6, .int .i64 0)]), [.arr true 2 []]⟩).bind fun x0 =>
  match x0.1 with
  | .normal =>
    none
  | .exit x2 =>
    cond (Nat.beq x2 0) (
     (asRows ((nth x0.2.t 0))).bind fun x3 =>
     (asRows ((nth x0.2.t 1))).bind fun x4 =>
     (asArr 0 2 ((nth x0.2.t 5))).bind fun x5 =>
     (asInt .i64 ((nth x0.2.t 6))).bind fun x6 =>
     (unconsO x0.2.h).bind fun x7 =>
     (asObArr true 2 x7.1).bind fun x8 =>
     (arrRows [.arr true 2 x8] 0 x5).bind fun x9 =>
     some (.slice .any x9, [.arr false 2 x8])) (
     none)
  | .ret =>
    none := by kernel_rfl

theorem e35_5 (C : CallT) (r0 : List (List V)) (r1 : List (List V)) (n2 : Int) (n3 : Int) (n4 : Int) (n5 : Int) : roundK Go.Ab.G20 Go.Ab.L20 C 35 none 5 ⟨(sp 0 70 [(0, .slice .any r1), (1, .int .i64 n2), (2, .int .i64 n3), (7, .arr 0 r0.length 6), (8, .int .i64 n4), (9, .int .i64 n5)]), [.arr true 6 r0]⟩ =
  cond (decide (n5 < (if (if n3 < ((r1.length : Nat) : Int) then n3 else ((r1.length : Nat) : Int)) > 1 then (if n3 < ((r1.length : Nat) : Int) then n3 else ((r1.length : Nat) : Int)) else 1))) (
   cond (decide (n5 < ((r1.length : Nat) : Int))) (
    (getRow r1 n5 6).bind fun x6 =>
    (uncons x6).bind fun x7 =>
    (asInt .i64 (x7.1)).bind fun x8 =>
    (uncons x7.2).bind fun x9 =>
    (asInt .i64 (x9.1)).bind fun x10 =>
    (uncons x9.2).bind fun x11 =>
    (asRows (x11.1)).bind fun x12 =>
    (uncons x11.2).bind fun x13 =>
    (asRows (x13.1)).bind fun x14 =>
    (uncons x13.2).bind fun x15 =>
    (asRows (x15.1)).bind fun x16 =>
    (uncons x15.2).bind fun x17 =>
    (asRows (x17.1)).bind fun x18 =>
    (isNil x17.2).bind fun x19 =>
    (C.p (.func 61) [.slice .any x16, .int .i64 n2]).bind fun x20 =>
    (asRows (x20)).bind fun x21 =>
    (C.p (.func 62) [.slice .any x21, .slice .any x12]).bind fun x22 =>
    (asRows (x22)).bind fun x23 =>
    (C.p (.func 62) [.slice .any x21, .slice .any x18]).bind fun x24 =>
    (asRows (x24)).bind fun x25 =>
    cond (decide (r0.length = r0.length)) (
     cond (decide (((r0.length + 1) * 112) ≤ room)) (
      some (.normal, ⟨(sp 0 70 [(0, .slice .any r1), (1, .int .i64 n2), (2, .int .i64 n3), (7, .arr 0 (r0.length + 1) 6), (8, .int .i64 (Go.IntKind.wrap .i64 (n4 + (Go.IntKind.wrap .i64 (1 + (Int.tmod (Go.IntKind.wrap .i64 ((Int.tmod x10 65536) + 65536)) 65536)))))), (9, .int .i64 (Go.IntKind.wrap .i64 (n5 + 1)))]), [.arr true 6 (List.append r0 [[.int .i64 n4, .int .i64 (Go.IntKind.wrap .i64 (1 + (Int.tmod (Go.IntKind.wrap .i64 ((Int.tmod x10 65536) + 65536)) 65536))), .slice .any x23, .slice .any x21, .slice .any x21, .slice .any x25]])]⟩)) (
      none)) (
     none)) (
    (C.p (.func 61) [.slice .any [], .int .i64 n2]).bind fun x0 =>
    (asRows (x0)).bind fun x1 =>
    (C.p (.func 62) [.slice .any x1, .slice .any []]).bind fun x2 =>
    (asRows (x2)).bind fun x3 =>
    (C.p (.func 62) [.slice .any x1, .slice .any []]).bind fun x4 =>
    (asRows (x4)).bind fun x5 =>
    cond (decide (r0.length = r0.length)) (
     cond (decide (((r0.length + 1) * 112) ≤ room)) (
      some (.normal, ⟨(sp 0 70 [(0, .slice .any r1), (1, .int .i64 n2), (2, .int .i64 n3), (7, .arr 0 (r0.length + 1) 6), (8, .int .i64 (Go.IntKind.wrap .i64 (n4 + 1))), (9, .int .i64 (Go.IntKind.wrap .i64 (n5 + 1)))]), [.arr true 6 (List.append r0 [[.int .i64 n4, .int .i64 1, .slice .any x3, .slice .any x1, .slice .any x1, .slice .any x5]])]⟩)) (
      none)) (
     none))) (
   some ((.exit 0), ⟨(sp 0 70 [(0, .slice .any r1), (1, .int .i64 n2), (2, .int .i64 n3), (7, .arr 0 r0.length 6), (8, .int .i64 n4), (9, .int .i64 n5)]), [.arr true 6 r0]⟩)) := by kernel_rfl

theorem e35 (C : CallT) (r0 : List (List V)) (n1 : Int) (n2 : Int) : run1 Go.Ab.G20 Go.Ab.L20 C (.func 35) [.slice .any r0, .int .i64 n1, .int .i64 n2] [] =
  cond (decide (((r0.length : Nat) : Int) > 0)) (
   (getRow r0 0 6).bind fun x12 =>
   (uncons x12).bind fun x13 =>
   (asInt .i64 (x13.1)).bind fun x14 =>
   (uncons x13.2).bind fun x15 =>
   (asInt .i64 (x15.1)).bind fun x16 =>
   (uncons x15.2).bind fun x17 =>
   (asRows (x17.1)).bind fun x18 =>
   (uncons x17.2).bind fun x19 =>
   (asRows (x19.1)).bind fun x20 =>
   (uncons x19.2).bind fun x21 =>
   (asRows (x21.1)).bind fun x22 =>
   (uncons x21.2).bind fun x23 =>
   (asRows (x23.1)).bind fun x24 =>
   (isNil x23.2).bind fun x25 =>
   (C.w (roundK Go.Ab.G20 Go.Ab.L20 C 35 none 5) ⟨(sp 0 70 [(0, .slice .any r0), (1, .int .i64 n1), (2, .int .i64 n2), (7, .arr 0 0 6), (8, .int .i64 (Int.tmod x14 1048576)), (9, .int .i64 0)]), [.arr true 6 []]⟩).bind fun x26 =>
   match x26.1 with
   | .normal =>
     none
   | .exit x28 =>
     cond (Nat.beq x28 0) (
      (asRows ((nth x26.2.t 0))).bind fun x29 =>
      (asInt .i64 ((nth x26.2.t 1))).bind fun x30 =>
      (asInt .i64 ((nth x26.2.t 2))).bind fun x31 =>
      (asArr 0 6 ((nth x26.2.t 7))).bind fun x32 =>
      (asInt .i64 ((nth x26.2.t 8))).bind fun x33 =>
      (asInt .i64 ((nth x26.2.t 9))).bind fun x34 =>
      (unconsO x26.2.h).bind fun x35 =>
      (asObArr true 6 x35.1).bind fun x36 =>
      (arrRows [.arr true 6 x36] 0 x32).bind fun x37 =>
      some (.slice .any x37, [.arr false 6 x36])) (
      none)
   | .ret =>
     none) (
   (C.w (roundK Go.Ab.G20 Go.Ab.L20 C 35 none 5) ⟨(sp 0 70 [(0, .slice .any r0), (1, .int .i64 n1), (2, .int .i64 n2), (7, .arr 0 0 6), (8, .int .i64 0), (9, .int .i64 0)]), [.arr true 6 []]⟩).bind fun x0 =>
   match x0.1 with
   | .normal =>
     none
   | .exit x2 =>
     cond (Nat.beq x2 0) (
      (asRows ((nth x0.2.t 0))).bind fun x3 =>
      (asInt .i64 ((nth x0.2.t 1))).bind fun x4 =>
      (asInt .i64 ((nth x0.2.t 2))).bind fun x5 =>
      (asArr 0 6 ((nth x0.2.t 7))).bind fun x6 =>
      (asInt .i64 ((nth x0.2.t 8))).bind fun x7 =>
      (asInt .i64 ((nth x0.2.t 9))).bind fun x8 =>
      (unconsO x0.2.h).bind fun x9 =>
      (asObArr true 6 x9.1).bind fun x10 =>
      (arrRows [.arr true 6 x10] 0 x6).bind fun x11 =>
      some (.slice .any x11, [.arr false 6 x10])) (
      none)
   | .ret =>
     none) := by kernel_rfl

theorem e12 (C : CallT) (r0 : List (List V)) (r1 : List (List V)) (n2 : Int) (n3 : Int) : run1 Go.Ab.G20 Go.Ab.L20 C (.func 12) [.agg [.slice .any r0, .slice .any r1, .int .u8 n2, .int .i64 n3]] [] =
  (C.p (.func 35) [.slice .any r0, .int .i64 3, .int .i64 6]).bind fun x0 =>
  (asRows (x0)).bind fun x1 =>
  (C.p (.func 35) [.slice .any r1, .int .i64 3, .int .i64 6]).bind fun x2 =>
  (asRows (x2)).bind fun x3 =>
  some (.tuple [.slice .any x1, .slice .any x3, .agg [.int .i64 (Go.IntKind.wrap .i64 (1 + (Go.IntKind.wrap .i64 (Int.tmod n2 3)))), .int .i64 (Int.tmod (Go.IntKind.wrap .i64 ((Int.tmod n3 4194304) + 4194304)) 4194304)]], []) := by kernel_rfl


end Go.Ab
