/- What the calls do, written out: by evaluation; conditions: none. -/
import Derived.KernelRfl
import Derived.Test.YtbfecmgiffkooaaT20
namespace Go.Ab
set_option linter.unusedVariables false
set_option linter.unusedSimpArgs false
set_option linter.unusedVariables false
set_option linter.unusedSimpArgs false
set_option linter.unusedVariables false
set_option maxHeartbeats 2000000
theorem e21_5_q (C : CallT) (r0 : List (List V)) (r1 : List (List V)) (r2 : List (List V)) (n3 : Int) (n4 : Int) (r5 : List (List V)) (n6 : Int) (n7 : Int) : roundK Go.Ab.G20 Go.Ab.L20 C 21 none 5 ⟨(sp 0 60 [(8, .arr 3 r0.length 2), (19, .slice .any r5), (20, .int .i64 n6), (21, .int .i64 n7)]), [.cells [.slice .any r1], .cells [.slice .any r2], .cells [.int .i64 n3, .int .i64 n4], .arr true 2 r0]⟩ =
  cond (decide (n7 < n6)) (
   (getRow r5 n7 2).bind fun x0 =>
   (uncons x0).bind fun x1 =>
   (asInt .i64 (x1.1)).bind fun x2 =>
   (uncons x1.2).bind fun x3 =>
   (asInt .i64 (x3.1)).bind fun x4 =>
   (isNil x3.2).bind fun x5 =>
   cond (decide (((r0.length : Nat) : Int) > 0)) (
    cond (decide (0 ≤ (Go.IntKind.wrap .i64 (((r0.length : Nat) : Int) - 1)))) (
     cond (decide ((Go.IntKind.wrap .i64 (((r0.length : Nat) : Int) - 1)).toNat < r0.length)) (
      (arrRows [.cells [.slice .any r1], .cells [.slice .any r2], .cells [.int .i64 n3, .int .i64 n4], .arr true 2 r0] 3 r0.length).bind fun x6 =>
      (getRow x6 (((Go.IntKind.wrap .i64 (((r0.length : Nat) : Int) - 1)).toNat : Nat) : Int) 2).bind fun x7 =>
      (cellsAt x7 1 1).bind fun x8 =>
      (uncons x8).bind fun x9 =>
      (asInt .i64 (x9.1)).bind fun x10 =>
      (isNil x9.2).bind fun x11 =>
      cond (decide (x2 ≤ x10)) (
       cond (decide (0 ≤ (Go.IntKind.wrap .i64 (((r0.length : Nat) : Int) - 1)))) (
        cond (decide ((Go.IntKind.wrap .i64 (((r0.length : Nat) : Int) - 1)).toNat < r0.length)) (
         (arrRows [.cells [.slice .any r1], .cells [.slice .any r2], .cells [.int .i64 n3, .int .i64 n4], .arr true 2 r0] 3 r0.length).bind fun x12 =>
         (getRow x12 (((Go.IntKind.wrap .i64 (((r0.length : Nat) : Int) - 1)).toNat : Nat) : Int) 2).bind fun x13 =>
         (cellsAt x13 1 1).bind fun x14 =>
         (uncons x14).bind fun x15 =>
         (asInt .i64 (x15.1)).bind fun x16 =>
         (isNil x15.2).bind fun x17 =>
         cond (decide (0 ≤ (Go.IntKind.wrap .i64 (((r0.length : Nat) : Int) - 1)))) (
          cond (decide ((Go.IntKind.wrap .i64 (((r0.length : Nat) : Int) - 1)).toNat < r0.length)) (
           cond (decide (r0.length = r0.length)) (
            some (.normal, ⟨(sp 0 60 [(8, .arr 3 r0.length 2), (19, .slice .any r5), (20, .int .i64 n6), (21, .int .i64 (Go.IntKind.wrap .i64 (n7 + 1)))]), [.cells [.slice .any r1], .cells [.slice .any r2], .cells [.int .i64 n3, .int .i64 n4], .arr true 2 (r0.set (Go.IntKind.wrap .i64 (((r0.length : Nat) : Int) - 1)).toNat (splice (r0.getD (Go.IntKind.wrap .i64 (((r0.length : Nat) : Int) - 1)).toNat []) 1 [.int .i64 (if x4 > x16 then x4 else x16)]))]⟩)) (
            none)) (
           none)) (
          none)) (
         none)) (
        none)) (
       cond (decide (r0.length = r0.length)) (
        cond (decide (((r0.length + 1) * 16) ≤ room)) (
         some (.normal, ⟨(sp 0 60 [(8, .arr 3 (r0.length + 1) 2), (19, .slice .any r5), (20, .int .i64 n6), (21, .int .i64 (Go.IntKind.wrap .i64 (n7 + 1)))]), [.cells [.slice .any r1], .cells [.slice .any r2], .cells [.int .i64 n3, .int .i64 n4], .arr true 2 (List.append r0 [[.int .i64 x2, .int .i64 x4]])]⟩)) (
         none)) (
        none))) (
      none)) (
     none)) (
    cond (decide (r0.length = r0.length)) (
     cond (decide (((r0.length + 1) * 16) ≤ room)) (
      some (.normal, ⟨(sp 0 60 [(8, .arr 3 (r0.length + 1) 2), (19, .slice .any r5), (20, .int .i64 n6), (21, .int .i64 (Go.IntKind.wrap .i64 (n7 + 1)))]), [.cells [.slice .any r1], .cells [.slice .any r2], .cells [.int .i64 n3, .int .i64 n4], .arr true 2 (List.append r0 [[.int .i64 x2, .int .i64 x4]])]⟩)) (
      none)) (
     none))) (
   some ((.exit 0), ⟨(sp 0 60 [(8, .arr 3 r0.length 2), (19, .slice .any r5), (20, .int .i64 n6), (21, .int .i64 n7)]), [.cells [.slice .any r1], .cells [.slice .any r2], .cells [.int .i64 n3, .int .i64 n4], .arr true 2 r0]⟩)) := by kernel_rfl

theorem e92_4_q (C : CallT) (r0 : List (List V)) (n1 : Int) (n2 : Int) (n3 : Int) (n4 : Int) : roundK Go.Ab.G20 Go.Ab.L20 C 92 none 4 ⟨(sp 0 53 [(0, .slice .any r0), (1, .int .i64 n1), (2, .int .i64 n2), (3, .fn (.func 51) [] []), (8, .int .i64 n3), (9, .int .i64 n4)]), []⟩ =
  cond (decide (n4 > n1)) (
   (getRow r0 n4 2).bind fun x0 =>
   (uncons x0).bind fun x1 =>
   (asInt .i64 (x1.1)).bind fun x2 =>
   (uncons x1.2).bind fun x3 =>
   (asInt .i64 (x3.1)).bind fun x4 =>
   (isNil x3.2).bind fun x5 =>
   (getRow r0 (Go.IntKind.wrap .i64 (n4 - 1)) 2).bind fun x6 =>
   (uncons x6).bind fun x7 =>
   (asInt .i64 (x7.1)).bind fun x8 =>
   (uncons x7.2).bind fun x9 =>
   (asInt .i64 (x9.1)).bind fun x10 =>
   (isNil x9.2).bind fun x11 =>
   (C.p (.func 51) [.agg [.int .i64 x2, .int .i64 x4], .agg [.int .i64 x8, .int .i64 x10]]).bind fun x12 =>
   (asInt .i64 (x12)).bind fun x13 =>
   cond (decide (x13 < 0)) (
    (getRow r0 (Go.IntKind.wrap .i64 (n4 - 1)) 2).bind fun x14 =>
    (uncons x14).bind fun x15 =>
    (asInt .i64 (x15.1)).bind fun x16 =>
    (uncons x15.2).bind fun x17 =>
    (asInt .i64 (x17.1)).bind fun x18 =>
    (isNil x17.2).bind fun x19 =>
    (getRow r0 n4 2).bind fun x20 =>
    (uncons x20).bind fun x21 =>
    (asInt .i64 (x21.1)).bind fun x22 =>
    (uncons x21.2).bind fun x23 =>
    (asInt .i64 (x23.1)).bind fun x24 =>
    (isNil x23.2).bind fun x25 =>
    (getRow r0 n4 2).bind fun x26 =>
    (uncons x26).bind fun x27 =>
    (asInt .i64 (x27.1)).bind fun x28 =>
    (uncons x27.2).bind fun x29 =>
    (asInt .i64 (x29.1)).bind fun x30 =>
    (isNil x29.2).bind fun x31 =>
    none) (
    some ((.exit 2), ⟨(sp 0 53 [(0, .slice .any r0), (1, .int .i64 n1), (2, .int .i64 n2), (3, .fn (.func 51) [] []), (8, .int .i64 n3), (9, .int .i64 n4)]), []⟩))) (
   some ((.exit 2), ⟨(sp 0 53 [(0, .slice .any r0), (1, .int .i64 n1), (2, .int .i64 n2), (3, .fn (.func 51) [] []), (8, .int .i64 n3), (9, .int .i64 n4)]), []⟩)) := by kernel_rfl

theorem e92_1_q (C : CallT) (r0 : List (List V)) (n1 : Int) (n2 : Int) (n3 : Int) : roundK Go.Ab.G20 Go.Ab.L20 C 92 none 1 ⟨(sp 0 53 [(0, .slice .any r0), (1, .int .i64 n1), (2, .int .i64 n2), (3, .fn (.func 51) [] []), (8, .int .i64 n3)]), []⟩ =
  cond (decide (n3 < n2)) (
   (C.w (roundK Go.Ab.G20 Go.Ab.L20 C 92 none 4) ⟨(sp 0 53 [(0, .slice .any r0), (1, .int .i64 n1), (2, .int .i64 n2), (3, .fn (.func 51) [] []), (8, .int .i64 n3), (9, .int .i64 n3)]), []⟩).bind fun x0 =>
   match x0.1 with
   | .normal =>
     none
   | .exit x2 =>
     cond (Nat.beq x2 2) (
      (asRows ((nth x0.2.t 0))).bind fun x3 =>
      (asInt .i64 ((nth x0.2.t 1))).bind fun x4 =>
      (asInt .i64 ((nth x0.2.t 2))).bind fun x5 =>
      (asFn (.func 51) ((nth x0.2.t 3))).bind fun x6 =>
      (isNil x6.1).bind fun x7 =>
      (isNil x6.2).bind fun x8 =>
      (asInt .i64 ((nth x0.2.t 8))).bind fun x9 =>
      (asInt .i64 ((nth x0.2.t 9))).bind fun x10 =>
      some (.normal, ⟨(sp 0 53 [(0, .slice .any x3), (1, .int .i64 x4), (2, .int .i64 x5), (3, .fn (.func 51) [] []), (8, .int .i64 (Go.IntKind.wrap .i64 (x9 + 1)))]), []⟩)) (
      none)
   | .ret =>
     none) (
   some ((.exit 0), ⟨(sp 0 53 [(0, .slice .any r0), (1, .int .i64 n1), (2, .int .i64 n2), (3, .fn (.func 51) [] []), (8, .int .i64 n3)]), []⟩)) := by kernel_rfl

theorem p92_q (C : CallT) (r0 : List (List V)) (n1 : Int) (n2 : Int) : run1 Go.Ab.G20 Go.Ab.L20 C (.func 92) [.slice .any r0, .int .i64 n1, .int .i64 n2, .fn (.func 51) [] []] [] =
  (C.w (roundK Go.Ab.G20 Go.Ab.L20 C 92 none 1) ⟨(sp 0 53 [(0, .slice .any r0), (1, .int .i64 n1), (2, .int .i64 n2), (3, .fn (.func 51) [] []), (8, .int .i64 (Go.IntKind.wrap .i64 (n1 + 1)))]), []⟩).bind fun x0 =>
  match x0.1 with
  | .normal =>
    none
  | .exit x2 =>
    cond (Nat.beq x2 0) (
     (asRows ((nth x0.2.t 0))).bind fun x3 =>
     (asInt .i64 ((nth x0.2.t 1))).bind fun x4 =>
     (asInt .i64 ((nth x0.2.t 2))).bind fun x5 =>
     (asFn (.func 51) ((nth x0.2.t 3))).bind fun x6 =>
     (isNil x6.1).bind fun x7 =>
     (isNil x6.2).bind fun x8 =>
     (asInt .i64 ((nth x0.2.t 8))).bind fun x9 =>
     some (.tuple [], [])) (
     none)
  | .ret =>
    none := by kernel_rfl

theorem e97_5_q (C : CallT) (r0 : List (List V)) (n1 : Int) (n2 : Int) (b3 : Bool) (n4 : Int) (n5 : Int) : roundK Go.Ab.G20 Go.Ab.L20 C 97 none 5 ⟨(sp 0 141 [(0, .slice .any r0), (1, .int .i64 n1), (2, .int .i64 n2), (3, .fn (.func 51) [] []), (8, .bool b3), (9, .int .i64 n4), (10, .int .i64 n5)]), []⟩ =
  cond (decide (n4 < n2)) (
   (getRow r0 n4 2).bind fun x0 =>
   (uncons x0).bind fun x1 =>
   (asInt .i64 (x1.1)).bind fun x2 =>
   (uncons x1.2).bind fun x3 =>
   (asInt .i64 (x3.1)).bind fun x4 =>
   (isNil x3.2).bind fun x5 =>
   (getRow r0 (Go.IntKind.wrap .i64 (n4 - 1)) 2).bind fun x6 =>
   (uncons x6).bind fun x7 =>
   (asInt .i64 (x7.1)).bind fun x8 =>
   (uncons x7.2).bind fun x9 =>
   (asInt .i64 (x9.1)).bind fun x10 =>
   (isNil x9.2).bind fun x11 =>
   (C.p (.func 51) [.agg [.int .i64 x2, .int .i64 x4], .agg [.int .i64 x8, .int .i64 x10]]).bind fun x12 =>
   (asInt .i64 (x12)).bind fun x13 =>
   cond (!(decide (x13 < 0))) (
    some (.normal, ⟨(sp 0 141 [(0, .slice .any r0), (1, .int .i64 n1), (2, .int .i64 n2), (3, .fn (.func 51) [] []), (8, .bool b3), (9, .int .i64 (Go.IntKind.wrap .i64 (n4 + 1))), (10, .int .i64 n5)]), []⟩)) (
    some ((.exit 2), ⟨(sp 0 141 [(0, .slice .any r0), (1, .int .i64 n1), (2, .int .i64 n2), (3, .fn (.func 51) [] []), (8, .bool b3), (9, .int .i64 n4), (10, .int .i64 n5)]), []⟩))) (
   some ((.exit 2), ⟨(sp 0 141 [(0, .slice .any r0), (1, .int .i64 n1), (2, .int .i64 n2), (3, .fn (.func 51) [] []), (8, .bool b3), (9, .int .i64 n4), (10, .int .i64 n5)]), []⟩)) := by kernel_rfl

theorem e97_3_q (C : CallT) (r0 : List (List V)) (n1 : Int) (n2 : Int) (b3 : Bool) (n4 : Int) (n5 : Int) : roundK Go.Ab.G20 Go.Ab.L20 C 97 none 3 ⟨(sp 0 141 [(0, .slice .any r0), (1, .int .i64 n1), (2, .int .i64 n2), (3, .fn (.func 51) [] []), (8, .bool b3), (9, .int .i64 n4), (10, .int .i64 n5)]), []⟩ =
  cond (decide (n5 < 5)) (
   (C.w (roundK Go.Ab.G20 Go.Ab.L20 C 97 none 5) ⟨(sp 0 141 [(0, .slice .any r0), (1, .int .i64 n1), (2, .int .i64 n2), (3, .fn (.func 51) [] []), (8, .bool b3), (9, .int .i64 n4), (10, .int .i64 n5)]), []⟩).bind fun x0 =>
   match x0.1 with
   | .normal =>
     none
   | .exit x2 =>
     cond (Nat.beq x2 2) (
      (asRows ((nth x0.2.t 0))).bind fun x3 =>
      (asInt .i64 ((nth x0.2.t 1))).bind fun x4 =>
      (asInt .i64 ((nth x0.2.t 2))).bind fun x5 =>
      (asFn (.func 51) ((nth x0.2.t 3))).bind fun x6 =>
      (isNil x6.1).bind fun x7 =>
      (isNil x6.2).bind fun x8 =>
      (asBool ((nth x0.2.t 8))).bind fun x9 =>
      (asInt .i64 ((nth x0.2.t 9))).bind fun x10 =>
      (asInt .i64 ((nth x0.2.t 10))).bind fun x11 =>
      cond (x10 == x5) (
       some (.ret, ⟨(sp 0 141 [(0, .slice .any x3), (1, .int .i64 x4), (2, .int .i64 x5), (3, .fn (.func 51) [] []), (8, .bool true), (9, .int .i64 x10), (10, .int .i64 x11)]), []⟩)) (
       cond (decide ((Go.IntKind.wrap .i64 (x5 - x4)) < 50)) (
        some (.ret, ⟨(sp 0 141 [(0, .slice .any x3), (1, .int .i64 x4), (2, .int .i64 x5), (3, .fn (.func 51) [] []), (8, .bool false), (9, .int .i64 x10), (10, .int .i64 x11)]), []⟩)) (
        none))) (
      none)
   | .ret =>
     none) (
   some ((.exit 0), ⟨(sp 0 141 [(0, .slice .any r0), (1, .int .i64 n1), (2, .int .i64 n2), (3, .fn (.func 51) [] []), (8, .bool b3), (9, .int .i64 n4), (10, .int .i64 n5)]), []⟩)) := by kernel_rfl

theorem p97_q (C : CallT) (r0 : List (List V)) (n1 : Int) (n2 : Int) : run1 Go.Ab.G20 Go.Ab.L20 C (.func 97) [.slice .any r0, .int .i64 n1, .int .i64 n2, .fn (.func 51) [] []] [] =
  (C.w (roundK Go.Ab.G20 Go.Ab.L20 C 97 none 3) ⟨(sp 0 141 [(0, .slice .any r0), (1, .int .i64 n1), (2, .int .i64 n2), (3, .fn (.func 51) [] []), (8, .bool false), (9, .int .i64 (Go.IntKind.wrap .i64 (n1 + 1))), (10, .int .i64 0)]), []⟩).bind fun x0 =>
  match x0.1 with
  | .normal =>
    none
  | .exit x2 =>
    cond (Nat.beq x2 0) (
     (asRows ((nth x0.2.t 0))).bind fun x3 =>
     (asInt .i64 ((nth x0.2.t 1))).bind fun x4 =>
     (asInt .i64 ((nth x0.2.t 2))).bind fun x5 =>
     (asFn (.func 51) ((nth x0.2.t 3))).bind fun x6 =>
     (isNil x6.1).bind fun x7 =>
     (isNil x6.2).bind fun x8 =>
     (asBool ((nth x0.2.t 8))).bind fun x9 =>
     (asInt .i64 ((nth x0.2.t 9))).bind fun x10 =>
     (asInt .i64 ((nth x0.2.t 10))).bind fun x11 =>
     some (.bool false, [])) (
     none)
  | .ret =>
    (asRows ((nth x0.2.t 0))).bind fun x12 =>
    (asInt .i64 ((nth x0.2.t 1))).bind fun x13 =>
    (asInt .i64 ((nth x0.2.t 2))).bind fun x14 =>
    (asFn (.func 51) ((nth x0.2.t 3))).bind fun x15 =>
    (isNil x15.1).bind fun x16 =>
    (isNil x15.2).bind fun x17 =>
    (asBool ((nth x0.2.t 8))).bind fun x18 =>
    (asInt .i64 ((nth x0.2.t 9))).bind fun x19 =>
    (asInt .i64 ((nth x0.2.t 10))).bind fun x20 =>
    some (.bool x18, []) := by kernel_rfl

theorem s106_q (C : CallT) (r0 : List (List V)) (n1 : Int) : run1 Go.Ab.G20 Go.Ab.L20 C (.func 106) [.slice .any r0, .int .i64 n1, .undef, .fn (.func 51) [] []] [] =
  (C.s (.func 107) [.slice .any r0, .int .i64 (Go.IntKind.wrap .i64 (n1 - 1)), .int .i64 n1, .int .i64 (Go.IntKind.wrap .i64 (n1 + 1)), .undef, .fn (.func 51) [] []] []).bind fun x0 =>
  (asInt .i64 (x0.1)).bind fun x1 =>
  some (.int .i64 x1, []) := by kernel_rfl

theorem s110_q (C : CallT) (r0 : List (List V)) (n1 : Int) (n2 : Int) : run1 Go.Ab.G20 Go.Ab.L20 C (.func 110) [.slice .any r0, .int .i64 n1, .int .i64 n2, .undef, .fn (.func 51) [] []] [] =
  (getRow r0 n2 2).bind fun x0 =>
  (uncons x0).bind fun x1 =>
  (asInt .i64 (x1.1)).bind fun x2 =>
  (uncons x1.2).bind fun x3 =>
  (asInt .i64 (x3.1)).bind fun x4 =>
  (isNil x3.2).bind fun x5 =>
  (getRow r0 n1 2).bind fun x6 =>
  (uncons x6).bind fun x7 =>
  (asInt .i64 (x7.1)).bind fun x8 =>
  (uncons x7.2).bind fun x9 =>
  (asInt .i64 (x9.1)).bind fun x10 =>
  (isNil x9.2).bind fun x11 =>
  (C.p (.func 51) [.agg [.int .i64 x2, .int .i64 x4], .agg [.int .i64 x8, .int .i64 x10]]).bind fun x12 =>
  (asInt .i64 (x12)).bind fun x13 =>
  cond (decide (x13 < 0)) (
   none) (
   some (.tuple [.int .i64 n1, .int .i64 n2], [])) := by kernel_rfl

theorem s107_q (C : CallT) (r0 : List (List V)) (n1 : Int) (n2 : Int) (n3 : Int) : run1 Go.Ab.G20 Go.Ab.L20 C (.func 107) [.slice .any r0, .int .i64 n1, .int .i64 n2, .int .i64 n3, .undef, .fn (.func 51) [] []] [] =
  (C.s (.func 110) [.slice .any r0, .int .i64 n1, .int .i64 n2, .undef, .fn (.func 51) [] []] []).bind fun x0 =>
  (asTuple (x0.1)).bind fun x1 =>
  (uncons x1).bind fun x2 =>
  (asInt .i64 (x2.1)).bind fun x3 =>
  (uncons x2.2).bind fun x4 =>
  (asInt .i64 (x4.1)).bind fun x5 =>
  (isNil x4.2).bind fun x6 =>
  (C.s (.func 110) [.slice .any r0, .int .i64 x5, .int .i64 n3, .undef, .fn (.func 51) [] []] []).bind fun x7 =>
  (asTuple (x7.1)).bind fun x8 =>
  (uncons x8).bind fun x9 =>
  (asInt .i64 (x9.1)).bind fun x10 =>
  (uncons x9.2).bind fun x11 =>
  (asInt .i64 (x11.1)).bind fun x12 =>
  (isNil x11.2).bind fun x13 =>
  (C.s (.func 110) [.slice .any r0, .int .i64 x3, .int .i64 x10, .undef, .fn (.func 51) [] []] []).bind fun x14 =>
  (asTuple (x14.1)).bind fun x15 =>
  (uncons x15).bind fun x16 =>
  (asInt .i64 (x16.1)).bind fun x17 =>
  (uncons x16.2).bind fun x18 =>
  (asInt .i64 (x18.1)).bind fun x19 =>
  (isNil x18.2).bind fun x20 =>
  some (.int .i64 x19, []) := by kernel_rfl

theorem p95_q (C : CallT) (r0 : List (List V)) (n1 : Int) (n2 : Int) : run1 Go.Ab.G20 Go.Ab.L20 C (.func 95) [.slice .any r0, .int .i64 n1, .int .i64 n2, .fn (.func 51) [] []] [] =
  cond (decide ((Go.IntKind.wrap .i64 (n2 - n1)) ≥ 8)) (
   cond (decide ((Go.IntKind.wrap .i64 (n2 - n1)) ≥ 50)) (
    (C.s (.func 106) [.slice .any r0, .int .i64 (Go.IntKind.wrap .i64 (n1 + (Go.IntKind.wrap .i64 ((Go.IntKind.wrap .i64 (Int.tdiv (Go.IntKind.wrap .i64 (n2 - n1)) 4)) * 1)))), .undef, .fn (.func 51) [] []] []).bind fun x2 =>
    (asInt .i64 (x2.1)).bind fun x3 =>
    (C.s (.func 106) [.slice .any r0, .int .i64 (Go.IntKind.wrap .i64 (n1 + (Go.IntKind.wrap .i64 ((Go.IntKind.wrap .i64 (Int.tdiv (Go.IntKind.wrap .i64 (n2 - n1)) 4)) * 2)))), .undef, .fn (.func 51) [] []] []).bind fun x4 =>
    (asInt .i64 (x4.1)).bind fun x5 =>
    (C.s (.func 106) [.slice .any r0, .int .i64 (Go.IntKind.wrap .i64 (n1 + (Go.IntKind.wrap .i64 ((Go.IntKind.wrap .i64 (Int.tdiv (Go.IntKind.wrap .i64 (n2 - n1)) 4)) * 3)))), .undef, .fn (.func 51) [] []] []).bind fun x6 =>
    (asInt .i64 (x6.1)).bind fun x7 =>
    (C.s (.func 107) [.slice .any r0, .int .i64 x3, .int .i64 x5, .int .i64 x7, .undef, .fn (.func 51) [] []] []).bind fun x8 =>
    (asInt .i64 (x8.1)).bind fun x9 =>
    some (.tuple [.int .i64 x9, .int .i64 1], [])) (
    (C.s (.func 107) [.slice .any r0, .int .i64 (Go.IntKind.wrap .i64 (n1 + (Go.IntKind.wrap .i64 ((Go.IntKind.wrap .i64 (Int.tdiv (Go.IntKind.wrap .i64 (n2 - n1)) 4)) * 1)))), .int .i64 (Go.IntKind.wrap .i64 (n1 + (Go.IntKind.wrap .i64 ((Go.IntKind.wrap .i64 (Int.tdiv (Go.IntKind.wrap .i64 (n2 - n1)) 4)) * 2)))), .int .i64 (Go.IntKind.wrap .i64 (n1 + (Go.IntKind.wrap .i64 ((Go.IntKind.wrap .i64 (Int.tdiv (Go.IntKind.wrap .i64 (n2 - n1)) 4)) * 3)))), .undef, .fn (.func 51) [] []] []).bind fun x0 =>
    (asInt .i64 (x0.1)).bind fun x1 =>
    some (.tuple [.int .i64 x1, .int .i64 1], []))) (
   some (.tuple [.int .i64 (Go.IntKind.wrap .i64 (n1 + (Go.IntKind.wrap .i64 ((Go.IntKind.wrap .i64 (Int.tdiv (Go.IntKind.wrap .i64 (n2 - n1)) 4)) * 2)))), .int .i64 1], [])) := by kernel_rfl

theorem e77_2_q (C : CallT) (r0 : List (List V)) (n1 : Int) (n2 : Int) (n3 : Int) (b4 : Bool) (b5 : Bool) : roundK Go.Ab.G20 Go.Ab.L20 C 77 none 2 ⟨(sp 0 148 [(0, .slice .any r0), (1, .int .i64 n1), (2, .int .i64 n2), (3, .int .i64 n3), (4, .fn (.func 51) [] []), (10, .bool b4), (11, .bool b5)]), []⟩ =
  cond (decide ((Go.IntKind.wrap .i64 (n2 - n1)) ≤ 12)) (
   (C.p (.func 92) [.slice .any r0, .int .i64 n1, .int .i64 n2, .fn (.func 51) [] []]).bind fun x9 =>
   (asTuple (x9)).bind fun x10 =>
   (isNil x10).bind fun x11 =>
   some (.ret, ⟨(sp 0 148 [(0, .slice .any r0), (1, .int .i64 n1), (2, .int .i64 n2), (3, .int .i64 n3), (4, .fn (.func 51) [] []), (10, .bool b4), (11, .bool b5)]), []⟩)) (
   cond (n3 == 0) (
    none) (
    cond (!b4) (
     none) (
     (C.p (.func 95) [.slice .any r0, .int .i64 n1, .int .i64 n2, .fn (.func 51) [] []]).bind fun x0 =>
     (asTuple (x0)).bind fun x1 =>
     (uncons x1).bind fun x2 =>
     (asInt .i64 (x2.1)).bind fun x3 =>
     (uncons x2.2).bind fun x4 =>
     (asInt .i64 (x4.1)).bind fun x5 =>
     (isNil x4.2).bind fun x6 =>
     cond (x5 == 2) (
      none) (
      cond b4 (
       cond b5 (
        cond (x5 == 1) (
         (C.p (.func 97) [.slice .any r0, .int .i64 n1, .int .i64 n2, .fn (.func 51) [] []]).bind fun x7 =>
         (asBool (x7)).bind fun x8 =>
         cond x8 (
          some (.ret, ⟨(sp 0 148 [(0, .slice .any r0), (1, .int .i64 n1), (2, .int .i64 n2), (3, .int .i64 n3), (4, .fn (.func 51) [] []), (10, .bool b4), (11, .bool b5)]), []⟩)) (
          none)) (
         none)) (
        none)) (
       none))))) := by kernel_rfl

theorem p77_q (C : CallT) (r0 : List (List V)) (n1 : Int) (n2 : Int) (n3 : Int) : run1 Go.Ab.G20 Go.Ab.L20 C (.func 77) [.slice .any r0, .int .i64 n1, .int .i64 n2, .int .i64 n3, .fn (.func 51) [] []] [] =
  (C.w (roundK Go.Ab.G20 Go.Ab.L20 C 77 none 2) ⟨(sp 0 148 [(0, .slice .any r0), (1, .int .i64 n1), (2, .int .i64 n2), (3, .int .i64 n3), (4, .fn (.func 51) [] []), (10, .bool true), (11, .bool true)]), []⟩).bind fun x0 =>
  match x0.1 with
  | .normal =>
    none
  | .exit x2 =>
    none
  | .ret =>
    (asRows ((nth x0.2.t 0))).bind fun x3 =>
    (asInt .i64 ((nth x0.2.t 1))).bind fun x4 =>
    (asInt .i64 ((nth x0.2.t 2))).bind fun x5 =>
    (asInt .i64 ((nth x0.2.t 3))).bind fun x6 =>
    (asFn (.func 51) ((nth x0.2.t 4))).bind fun x7 =>
    (isNil x7.1).bind fun x8 =>
    (isNil x7.2).bind fun x9 =>
    (asBool ((nth x0.2.t 10))).bind fun x10 =>
    (asBool ((nth x0.2.t 11))).bind fun x11 =>
    some (.tuple [], []) := by kernel_rfl

theorem p50_q (C : CallT) (r0 : List (List V)) : run1 Go.Ab.G20 Go.Ab.L20 C (.func 50) [.slice .any r0, .fn (.func 51) [] []] [] =
  (C.p (.func 78) [.int .u64 (Go.IntKind.wrap .u64 ((r0.length : Nat) : Int))]).bind fun x0 =>
  (asInt .i64 (x0)).bind fun x1 =>
  (C.p (.func 77) [.slice .any r0, .int .i64 0, .int .i64 ((r0.length : Nat) : Int), .int .i64 x1, .fn (.func 51) [] []]).bind fun x2 =>
  (asTuple (x2)).bind fun x3 =>
  (isNil x3).bind fun x4 =>
  some (.tuple [], []) := by kernel_rfl

theorem y76_3_q (C : CallT) (r0 : List (List V)) (r1 : List (List V)) (r2 : List (List V)) (n3 : Int) (n4 : Int) (r5 : List (List V)) (r6 : List (List V)) (l7 : LoopA) (n8 : Int) (n9 : Int) : run1 Go.Ab.G20 Go.Ab.L20 C (.yield 5) [.agg [.int .i64 n8, .int .i64 n9]] [.cells [.slice .any r1], .cells [.slice .any r2], .cells [.int .i64 n3, .int .i64 n4], .arr true 2 r0, .cells [.arr 3 r0.length 2], .loop ⟨.ready, none, (sp 0 13 [(0, .slice .nil []), (1, .fn (.func 73) [] [.ptr 0 0, .ptr 1 0, .ptr 2 0]), (2, .ptr 4 0), (4, .slice .nil []), (6, .fn (.func 73) [] [.ptr 0 0, .ptr 1 0, .ptr 2 0])]), 76, [7], rangeAssign GP 76 3, rangeBody GP 76 3⟩, .cells [.fn (.yield 5) [] []], .cells [.slice .any r5], .cells [.slice .any r6], .loop l7] =
  cond (decide (r0.length = r0.length)) (
   cond (decide (((r0.length + 1) * 16) ≤ room)) (
    some (.bool true, [.cells [.slice .any r1], .cells [.slice .any r2], .cells [.int .i64 n3, .int .i64 n4], .arr true 2 (List.append r0 [[.int .i64 n8, .int .i64 n9]]), .cells [.arr 3 (r0.length + 1) 2], .loop ⟨.ready, none, (sp 0 13 [(0, .slice .nil []), (1, .fn (.func 73) [] [.ptr 0 0, .ptr 1 0, .ptr 2 0]), (2, .ptr 4 0), (4, .slice .nil []), (6, .fn (.func 73) [] [.ptr 0 0, .ptr 1 0, .ptr 2 0])]), 76, [7], rangeAssign GP 76 3, rangeBody GP 76 3⟩, .cells [.fn (.yield 5) [] []], .cells [.slice .any r5], .cells [.slice .any r6], .loop l7])) (
    none)) (
   none) := by kernel_rfl

theorem y73_3_q (C : CallT) (r0 : List (List V)) (r1 : List (List V)) (r2 : List (List V)) (n3 : Int) (n4 : Int) (l5 : LoopA) (r6 : List (List V)) (r7 : List (List V)) (r8 : List (List V)) (r9 : List (List V)) (n10 : Int) (n11 : Int) (r12 : List (List V)) (r13 : List (List V)) (r14 : List (List V)) (r15 : List (List V)) (n16 : Int) (n17 : Int) (r18 : List (List V)) (r19 : List (List V)) (r20 : List (List V)) (r21 : List (List V)) (n22 : Int) (n23 : Int) : run1 Go.Ab.G20 Go.Ab.L20 C (.yield 9) [.agg [.int .i64 n10, .int .i64 n11, .slice .any r12, .slice .any r13, .slice .any r14, .slice .any r15, .int .i64 n16, .int .i64 n17, .slice .any r18, .slice .any r19, .slice .any r20, .slice .any r21, .int .i64 n22, .int .i64 n23]] [.cells [.slice .any r1], .cells [.slice .any r2], .cells [.int .i64 n3, .int .i64 n4], .arr true 2 r0, .cells [.arr 3 r0.length 2], .loop l5, .cells [.fn (.yield 5) [] []], .cells [.slice .any r6], .cells [.slice .any r7], .loop ⟨.ready, none, (sp 0 33 [(0, .fn (.yield 5) [] []), (1, .ptr 0 0), (2, .ptr 1 0), (3, .ptr 2 0), (4, .ptr 6 0), (6, .slice .any r8), (7, .slice .any r9), (8, .fn (.func 66) [] [.ptr 7 0, .ptr 8 0])]), 73, [9], rangeAssign GP 73 3, rangeBody GP 73 3⟩] =
  cond (decide (0 ≤ n3)) (
   cond (decide (n3.toNat ≤ r14.length)) (
    cond (decide (0 ≤ n3)) (
     cond (decide (n3.toNat ≤ r20.length)) (
      (C.p (.func 74) [.slice .any ((r14.take n3.toNat).drop 0), .slice .any ((r20.take n3.toNat).drop 0), .int .i64 n4]).bind fun x0 =>
      (asBool (x0)).bind fun x1 =>
      cond (!x1) (
       (C.s (.yield 5) [.agg [.int .i64 n22, .int .i64 n23]] [.cells [.slice .any r1], .cells [.slice .any r2], .cells [.int .i64 n3, .int .i64 n4], .arr true 2 r0, .cells [.arr 3 r0.length 2], .loop l5, .cells [.fn (.yield 5) [] []], .cells [.slice .any r6], .cells [.slice .any r7], .loop ⟨.busy, none, (sp 0 33 [(0, .fn (.yield 5) [] []), (1, .ptr 0 0), (2, .ptr 1 0), (3, .ptr 2 0), (4, .ptr 6 0), (6, .slice .any r8), (7, .slice .any r9), (8, .fn (.func 66) [] [.ptr 7 0, .ptr 8 0])]), 73, [9], rangeAssign GP 73 3, rangeBody GP 73 3⟩]).bind fun x2 =>
       (asBool (x2.1)).bind fun x3 =>
       (unconsO x2.2).bind fun x4 =>
       (asObCells x4.1).bind fun x5 =>
       (uncons x5).bind fun x6 =>
       (asRows (x6.1)).bind fun x7 =>
       (isNil x6.2).bind fun x8 =>
       (unconsO x4.2).bind fun x9 =>
       (asObCells x9.1).bind fun x10 =>
       (uncons x10).bind fun x11 =>
       (asRows (x11.1)).bind fun x12 =>
       (isNil x11.2).bind fun x13 =>
       (unconsO x9.2).bind fun x14 =>
       (asObCells x14.1).bind fun x15 =>
       (uncons x15).bind fun x16 =>
       (asInt .i64 (x16.1)).bind fun x17 =>
       (uncons x16.2).bind fun x18 =>
       (asInt .i64 (x18.1)).bind fun x19 =>
       (isNil x18.2).bind fun x20 =>
       (unconsO x14.2).bind fun x21 =>
       (asObArr true 2 x21.1).bind fun x22 =>
       (unconsO x21.2).bind fun x23 =>
       (asObCells x23.1).bind fun x24 =>
       (uncons x24).bind fun x25 =>
       (asArr 3 2 (x25.1)).bind fun x26 =>
       (isNil x25.2).bind fun x27 =>
       (unconsO x23.2).bind fun x28 =>
       (asLoop x28.1).bind fun x29 =>
       (unconsO x28.2).bind fun x30 =>
       (asObCells x30.1).bind fun x31 =>
       (uncons x31).bind fun x32 =>
       (asFn (.yield 5) (x32.1)).bind fun x33 =>
       (isNil x33.1).bind fun x34 =>
       (isNil x33.2).bind fun x35 =>
       (isNil x32.2).bind fun x36 =>
       (unconsO x30.2).bind fun x37 =>
       (asObCells x37.1).bind fun x38 =>
       (uncons x38).bind fun x39 =>
       (asRows (x39.1)).bind fun x40 =>
       (isNil x39.2).bind fun x41 =>
       (unconsO x37.2).bind fun x42 =>
       (asObCells x42.1).bind fun x43 =>
       (uncons x43).bind fun x44 =>
       (asRows (x44.1)).bind fun x45 =>
       (isNil x44.2).bind fun x46 =>
       (unconsO x42.2).bind fun x47 =>
       (asLoop x47.1).bind fun x48 =>
       cond (!x3) (
        (isBusy x48.st).bind fun x50 =>
        some (.bool false, [.cells [.slice .any x7], .cells [.slice .any x12], .cells [.int .i64 x17, .int .i64 x19], .arr true 2 x22, .cells [.arr 3 x26 2], .loop x29, .cells [.fn (.yield 5) [] []], .cells [.slice .any x40], .cells [.slice .any x45], .loop { x48 with st := .done, pend := (some .ret) }])) (
        (isBusy x48.st).bind fun x49 =>
        some (.bool true, [.cells [.slice .any x7], .cells [.slice .any x12], .cells [.int .i64 x17, .int .i64 x19], .arr true 2 x22, .cells [.arr 3 x26 2], .loop x29, .cells [.fn (.yield 5) [] []], .cells [.slice .any x40], .cells [.slice .any x45], .loop { x48 with st := .ready, pend := none }]))) (
       some (.bool true, [.cells [.slice .any r1], .cells [.slice .any r2], .cells [.int .i64 n3, .int .i64 n4], .arr true 2 r0, .cells [.arr 3 r0.length 2], .loop l5, .cells [.fn (.yield 5) [] []], .cells [.slice .any r6], .cells [.slice .any r7], .loop ⟨.ready, none, (sp 0 33 [(0, .fn (.yield 5) [] []), (1, .ptr 0 0), (2, .ptr 1 0), (3, .ptr 2 0), (4, .ptr 6 0), (6, .slice .any r8), (7, .slice .any r9), (8, .fn (.func 66) [] [.ptr 7 0, .ptr 8 0])]), 73, [9], rangeAssign GP 73 3, rangeBody GP 73 3⟩]))) (
      none)) (
     none)) (
    none)) (
   none) := by kernel_rfl

theorem e66_7_q (C : CallT) (r0 : List (List V)) (r1 : List (List V)) (r2 : List (List V)) (n3 : Int) (n4 : Int) (l5 : LoopA) (r6 : List (List V)) (r7 : List (List V)) (l8 : LoopA) (n9 : Int) (n10 : Int) (n11 : Int) (r12 : List (List V)) (r13 : List (List V)) (r14 : List (List V)) (r15 : List (List V)) (r16 : List (List V)) (n17 : Int) (n18 : Int) (r19 : List (List V)) (n20 : Int) (n21 : Int) : roundK Go.Ab.G20 Go.Ab.L20 C 66 none 7 ⟨(sp 0 63 [(0, .fn (.yield 9) [] []), (2, .ptr 8 0), (4, .int .i64 n9), (6, .box [.int .i64 n10, .int .i64 n11, .slice .any r12, .slice .any r13, .slice .any r14, .slice .any r15]), (9, .slice .any r16), (10, .int .i64 n17), (11, .int .i64 n18), (33, .slice .any r19), (34, .int .i64 n20), (35, .int .i64 n21)]), [.cells [.slice .any r1], .cells [.slice .any r2], .cells [.int .i64 n3, .int .i64 n4], .arr true 2 r0, .cells [.arr 3 r0.length 2], .loop l5, .cells [.fn (.yield 5) [] []], .cells [.slice .any r6], .cells [.slice .any r7], .loop l8]⟩ =
  cond (decide (n21 < n20)) (
   (getRow r19 n21 6).bind fun x0 =>
   (uncons x0).bind fun x1 =>
   (asInt .i64 (x1.1)).bind fun x2 =>
   (uncons x1.2).bind fun x3 =>
   (asInt .i64 (x3.1)).bind fun x4 =>
   (uncons x3.2).bind fun x5 =>
   (asRows (x5.1)).bind fun x6 =>
   (uncons x5.2).bind fun x7 =>
   (asRows (x7.1)).bind fun x8 =>
   (uncons x7.2).bind fun x9 =>
   (asRows (x9.1)).bind fun x10 =>
   (uncons x9.2).bind fun x11 =>
   (asRows (x11.1)).bind fun x12 =>
   (isNil x11.2).bind fun x13 =>
   (C.p (.func 37) [.agg [.int .i64 n10, .int .i64 n11, .slice .any r12, .slice .any r13, .slice .any r14, .slice .any r15]]).bind fun x14 =>
   (asInt .i64 (x14)).bind fun x15 =>
   cond (decide (x2 > x15)) (
    some ((.exit 1), ⟨(sp 0 63 [(0, .fn (.yield 9) [] []), (2, .ptr 8 0), (4, .int .i64 n9), (6, .box [.int .i64 n10, .int .i64 n11, .slice .any r12, .slice .any r13, .slice .any r14, .slice .any r15]), (9, .slice .any r16), (10, .int .i64 n17), (11, .int .i64 n18), (33, .slice .any r19), (34, .int .i64 n20), (35, .int .i64 n21)]), [.cells [.slice .any r1], .cells [.slice .any r2], .cells [.int .i64 n3, .int .i64 n4], .arr true 2 r0, .cells [.arr 3 r0.length 2], .loop l5, .cells [.fn (.yield 5) [] []], .cells [.slice .any r6], .cells [.slice .any r7], .loop l8]⟩)) (
    (C.p (.func 37) [.agg [.int .i64 n10, .int .i64 n11, .slice .any r12, .slice .any r13, .slice .any r14, .slice .any r15]]).bind fun x16 =>
    (asInt .i64 (x16)).bind fun x17 =>
    (C.p (.func 37) [.agg [.int .i64 x2, .int .i64 x4, .slice .any x6, .slice .any x8, .slice .any x10, .slice .any x12]]).bind fun x18 =>
    (asInt .i64 (x18)).bind fun x19 =>
    (C.s (.yield 9) [.agg [.int .i64 n10, .int .i64 n11, .slice .any r12, .slice .any r13, .slice .any r14, .slice .any r15, .int .i64 x2, .int .i64 x4, .slice .any x6, .slice .any x8, .slice .any x10, .slice .any x12, .int .i64 (if x2 > n10 then x2 else n10), .int .i64 (if x19 < x17 then x19 else x17)]] [.cells [.slice .any r1], .cells [.slice .any r2], .cells [.int .i64 n3, .int .i64 n4], .arr true 2 r0, .cells [.arr 3 r0.length 2], .loop l5, .cells [.fn (.yield 5) [] []], .cells [.slice .any r6], .cells [.slice .any r7], .loop l8]).bind fun x20 =>
    (asBool (x20.1)).bind fun x21 =>
    (unconsO x20.2).bind fun x22 =>
    (asObCells x22.1).bind fun x23 =>
    (uncons x23).bind fun x24 =>
    (asRows (x24.1)).bind fun x25 =>
    (isNil x24.2).bind fun x26 =>
    (unconsO x22.2).bind fun x27 =>
    (asObCells x27.1).bind fun x28 =>
    (uncons x28).bind fun x29 =>
    (asRows (x29.1)).bind fun x30 =>
    (isNil x29.2).bind fun x31 =>
    (unconsO x27.2).bind fun x32 =>
    (asObCells x32.1).bind fun x33 =>
    (uncons x33).bind fun x34 =>
    (asInt .i64 (x34.1)).bind fun x35 =>
    (uncons x34.2).bind fun x36 =>
    (asInt .i64 (x36.1)).bind fun x37 =>
    (isNil x36.2).bind fun x38 =>
    (unconsO x32.2).bind fun x39 =>
    (asObArr true 2 x39.1).bind fun x40 =>
    (unconsO x39.2).bind fun x41 =>
    (asObCells x41.1).bind fun x42 =>
    (uncons x42).bind fun x43 =>
    (asArr 3 2 (x43.1)).bind fun x44 =>
    (isNil x43.2).bind fun x45 =>
    (unconsO x41.2).bind fun x46 =>
    (asLoop x46.1).bind fun x47 =>
    (unconsO x46.2).bind fun x48 =>
    (asObCells x48.1).bind fun x49 =>
    (uncons x49).bind fun x50 =>
    (asFn (.yield 5) (x50.1)).bind fun x51 =>
    (isNil x51.1).bind fun x52 =>
    (isNil x51.2).bind fun x53 =>
    (isNil x50.2).bind fun x54 =>
    (unconsO x48.2).bind fun x55 =>
    (asObCells x55.1).bind fun x56 =>
    (uncons x56).bind fun x57 =>
    (asRows (x57.1)).bind fun x58 =>
    (isNil x57.2).bind fun x59 =>
    (unconsO x55.2).bind fun x60 =>
    (asObCells x60.1).bind fun x61 =>
    (uncons x61).bind fun x62 =>
    (asRows (x62.1)).bind fun x63 =>
    (isNil x62.2).bind fun x64 =>
    (unconsO x60.2).bind fun x65 =>
    (asLoop x65.1).bind fun x66 =>
    cond (!x21) (
     some (.ret, ⟨(sp 0 63 [(0, .fn (.yield 9) [] []), (2, .ptr 8 0), (4, .int .i64 n9), (6, .box [.int .i64 n10, .int .i64 n11, .slice .any r12, .slice .any r13, .slice .any r14, .slice .any r15]), (9, .slice .any r16), (10, .int .i64 n17), (11, .int .i64 n18), (33, .slice .any r19), (34, .int .i64 n20), (35, .int .i64 n21)]), [.cells [.slice .any x25], .cells [.slice .any x30], .cells [.int .i64 x35, .int .i64 x37], .arr true 2 x40, .cells [.arr 3 x44 2], .loop x47, .cells [.fn (.yield 5) [] []], .cells [.slice .any x58], .cells [.slice .any x63], .loop x66]⟩)) (
     some (.normal, ⟨(sp 0 63 [(0, .fn (.yield 9) [] []), (2, .ptr 8 0), (4, .int .i64 n9), (6, .box [.int .i64 n10, .int .i64 n11, .slice .any r12, .slice .any r13, .slice .any r14, .slice .any r15]), (9, .slice .any r16), (10, .int .i64 n17), (11, .int .i64 n18), (33, .slice .any r19), (34, .int .i64 n20), (35, .int .i64 (Go.IntKind.wrap .i64 (n21 + 1)))]), [.cells [.slice .any x25], .cells [.slice .any x30], .cells [.int .i64 x35, .int .i64 x37], .arr true 2 x40, .cells [.arr 3 x44 2], .loop x47, .cells [.fn (.yield 5) [] []], .cells [.slice .any x58], .cells [.slice .any x63], .loop x66]⟩)))) (
   some ((.exit 4), ⟨(sp 0 63 [(0, .fn (.yield 9) [] []), (2, .ptr 8 0), (4, .int .i64 n9), (6, .box [.int .i64 n10, .int .i64 n11, .slice .any r12, .slice .any r13, .slice .any r14, .slice .any r15]), (9, .slice .any r16), (10, .int .i64 n17), (11, .int .i64 n18), (33, .slice .any r19), (34, .int .i64 n20), (35, .int .i64 n21)]), [.cells [.slice .any r1], .cells [.slice .any r2], .cells [.int .i64 n3, .int .i64 n4], .arr true 2 r0, .cells [.arr 3 r0.length 2], .loop l5, .cells [.fn (.yield 5) [] []], .cells [.slice .any r6], .cells [.slice .any r7], .loop l8]⟩)) := by kernel_rfl

theorem e66_4_q (C : CallT) (r0 : List (List V)) (r1 : List (List V)) (r2 : List (List V)) (n3 : Int) (n4 : Int) (l5 : LoopA) (r6 : List (List V)) (r7 : List (List V)) (l8 : LoopA) (n9 : Int) (n10 : Int) (n11 : Int) (r12 : List (List V)) (r13 : List (List V)) (r14 : List (List V)) (r15 : List (List V)) (r16 : List (List V)) (n17 : Int) (n18 : Int) : roundK Go.Ab.G20 Go.Ab.L20 C 66 none 4 ⟨(sp 0 63 [(0, .fn (.yield 9) [] []), (2, .ptr 8 0), (4, .int .i64 n9), (6, .box [.int .i64 n10, .int .i64 n11, .slice .any r12, .slice .any r13, .slice .any r14, .slice .any r15]), (9, .slice .any r16), (10, .int .i64 n17), (11, .int .i64 n18)]), [.cells [.slice .any r1], .cells [.slice .any r2], .cells [.int .i64 n3, .int .i64 n4], .arr true 2 r0, .cells [.arr 3 r0.length 2], .loop l5, .cells [.fn (.yield 5) [] []], .cells [.slice .any r6], .cells [.slice .any r7], .loop l8]⟩ =
  cond (decide (n9 < ((r7.length : Nat) : Int))) (
   (getRow r7 n9 6).bind fun x0 =>
   (uncons x0).bind fun x1 =>
   (asInt .i64 (x1.1)).bind fun x2 =>
   (uncons x1.2).bind fun x3 =>
   (asInt .i64 (x3.1)).bind fun x4 =>
   (uncons x3.2).bind fun x5 =>
   (asRows (x5.1)).bind fun x6 =>
   (uncons x5.2).bind fun x7 =>
   (asRows (x7.1)).bind fun x8 =>
   (uncons x7.2).bind fun x9 =>
   (asRows (x9.1)).bind fun x10 =>
   (uncons x9.2).bind fun x11 =>
   (asRows (x11.1)).bind fun x12 =>
   (isNil x11.2).bind fun x13 =>
   (C.p (.func 37) [.agg [.int .i64 x2, .int .i64 x4, .slice .any x6, .slice .any x8, .slice .any x10, .slice .any x12]]).bind fun x14 =>
   (asInt .i64 (x14)).bind fun x15 =>
   cond (decide (x15 < n10)) (
    some (.normal, ⟨(sp 0 63 [(0, .fn (.yield 9) [] []), (2, .ptr 8 0), (4, .int .i64 (Go.IntKind.wrap .i64 (n9 + 1))), (6, .box [.int .i64 n10, .int .i64 n11, .slice .any r12, .slice .any r13, .slice .any r14, .slice .any r15]), (9, .slice .any r16), (10, .int .i64 n17), (11, .int .i64 n18)]), [.cells [.slice .any r1], .cells [.slice .any r2], .cells [.int .i64 n3, .int .i64 n4], .arr true 2 r0, .cells [.arr 3 r0.length 2], .loop l5, .cells [.fn (.yield 5) [] []], .cells [.slice .any r6], .cells [.slice .any r7], .loop l8]⟩)) (
    some ((.exit 2), ⟨(sp 0 63 [(0, .fn (.yield 9) [] []), (2, .ptr 8 0), (4, .int .i64 n9), (6, .box [.int .i64 n10, .int .i64 n11, .slice .any r12, .slice .any r13, .slice .any r14, .slice .any r15]), (9, .slice .any r16), (10, .int .i64 n17), (11, .int .i64 n18)]), [.cells [.slice .any r1], .cells [.slice .any r2], .cells [.int .i64 n3, .int .i64 n4], .arr true 2 r0, .cells [.arr 3 r0.length 2], .loop l5, .cells [.fn (.yield 5) [] []], .cells [.slice .any r6], .cells [.slice .any r7], .loop l8]⟩))) (
   some ((.exit 2), ⟨(sp 0 63 [(0, .fn (.yield 9) [] []), (2, .ptr 8 0), (4, .int .i64 n9), (6, .box [.int .i64 n10, .int .i64 n11, .slice .any r12, .slice .any r13, .slice .any r14, .slice .any r15]), (9, .slice .any r16), (10, .int .i64 n17), (11, .int .i64 n18)]), [.cells [.slice .any r1], .cells [.slice .any r2], .cells [.int .i64 n3, .int .i64 n4], .arr true 2 r0, .cells [.arr 3 r0.length 2], .loop l5, .cells [.fn (.yield 5) [] []], .cells [.slice .any r6], .cells [.slice .any r7], .loop l8]⟩)) := by kernel_rfl

theorem e66_2_q (C : CallT) (r0 : List (List V)) (r1 : List (List V)) (r2 : List (List V)) (n3 : Int) (n4 : Int) (l5 : LoopA) (r6 : List (List V)) (r7 : List (List V)) (l8 : LoopA) (n9 : Int) (r10 : List (List V)) (n11 : Int) (n12 : Int) : roundK Go.Ab.G20 Go.Ab.L20 C 66 none 2 ⟨(sp 0 63 [(0, .fn (.yield 9) [] []), (2, .ptr 8 0), (4, .int .i64 n9), (9, .slice .any r10), (10, .int .i64 n11), (11, .int .i64 n12)]), [.cells [.slice .any r1], .cells [.slice .any r2], .cells [.int .i64 n3, .int .i64 n4], .arr true 2 r0, .cells [.arr 3 r0.length 2], .loop l5, .cells [.fn (.yield 5) [] []], .cells [.slice .any r6], .cells [.slice .any r7], .loop l8]⟩ =
  cond (decide (n12 < n11)) (
   (getRow r10 n12 6).bind fun x0 =>
   (uncons x0).bind fun x1 =>
   (asInt .i64 (x1.1)).bind fun x2 =>
   (uncons x1.2).bind fun x3 =>
   (asInt .i64 (x3.1)).bind fun x4 =>
   (uncons x3.2).bind fun x5 =>
   (asRows (x5.1)).bind fun x6 =>
   (uncons x5.2).bind fun x7 =>
   (asRows (x7.1)).bind fun x8 =>
   (uncons x7.2).bind fun x9 =>
   (asRows (x9.1)).bind fun x10 =>
   (uncons x9.2).bind fun x11 =>
   (asRows (x11.1)).bind fun x12 =>
   (isNil x11.2).bind fun x13 =>
   (C.w (roundK Go.Ab.G20 Go.Ab.L20 C 66 none 4) ⟨(sp 0 63 [(0, .fn (.yield 9) [] []), (2, .ptr 8 0), (4, .int .i64 n9), (6, .box [.int .i64 x2, .int .i64 x4, .slice .any x6, .slice .any x8, .slice .any x10, .slice .any x12]), (9, .slice .any r10), (10, .int .i64 n11), (11, .int .i64 n12)]), [.cells [.slice .any r1], .cells [.slice .any r2], .cells [.int .i64 n3, .int .i64 n4], .arr true 2 r0, .cells [.arr 3 r0.length 2], .loop l5, .cells [.fn (.yield 5) [] []], .cells [.slice .any r6], .cells [.slice .any r7], .loop l8]⟩).bind fun x14 =>
   match x14.1 with
   | .normal =>
     none
   | .exit x16 =>
     cond (Nat.beq x16 2) (
      (asFn (.yield 9) ((nth x14.2.t 0))).bind fun x17 =>
      (isNil x17.1).bind fun x18 =>
      (isNil x17.2).bind fun x19 =>
      (asPtr 8 0 ((nth x14.2.t 2))).bind fun x20 =>
      (asInt .i64 ((nth x14.2.t 4))).bind fun x21 =>
      (asBox ((nth x14.2.t 6))).bind fun x22 =>
      (uncons x22).bind fun x23 =>
      (asInt .i64 (x23.1)).bind fun x24 =>
      (uncons x23.2).bind fun x25 =>
      (asInt .i64 (x25.1)).bind fun x26 =>
      (uncons x25.2).bind fun x27 =>
      (asRows (x27.1)).bind fun x28 =>
      (uncons x27.2).bind fun x29 =>
      (asRows (x29.1)).bind fun x30 =>
      (uncons x29.2).bind fun x31 =>
      (asRows (x31.1)).bind fun x32 =>
      (uncons x31.2).bind fun x33 =>
      (asRows (x33.1)).bind fun x34 =>
      (isNil x33.2).bind fun x35 =>
      (asRows ((nth x14.2.t 9))).bind fun x36 =>
      (asInt .i64 ((nth x14.2.t 10))).bind fun x37 =>
      (asInt .i64 ((nth x14.2.t 11))).bind fun x38 =>
      (unconsO x14.2.h).bind fun x39 =>
      (asObCells x39.1).bind fun x40 =>
      (uncons x40).bind fun x41 =>
      (asRows (x41.1)).bind fun x42 =>
      (isNil x41.2).bind fun x43 =>
      (unconsO x39.2).bind fun x44 =>
      (asObCells x44.1).bind fun x45 =>
      (uncons x45).bind fun x46 =>
      (asRows (x46.1)).bind fun x47 =>
      (isNil x46.2).bind fun x48 =>
      (unconsO x44.2).bind fun x49 =>
      (asObCells x49.1).bind fun x50 =>
      (uncons x50).bind fun x51 =>
      (asInt .i64 (x51.1)).bind fun x52 =>
      (uncons x51.2).bind fun x53 =>
      (asInt .i64 (x53.1)).bind fun x54 =>
      (isNil x53.2).bind fun x55 =>
      (unconsO x49.2).bind fun x56 =>
      (asObArr true 2 x56.1).bind fun x57 =>
      (unconsO x56.2).bind fun x58 =>
      (asObCells x58.1).bind fun x59 =>
      (uncons x59).bind fun x60 =>
      (asArr 3 2 (x60.1)).bind fun x61 =>
      (isNil x60.2).bind fun x62 =>
      (unconsO x58.2).bind fun x63 =>
      (asLoop x63.1).bind fun x64 =>
      (unconsO x63.2).bind fun x65 =>
      (asObCells x65.1).bind fun x66 =>
      (uncons x66).bind fun x67 =>
      (asFn (.yield 5) (x67.1)).bind fun x68 =>
      (isNil x68.1).bind fun x69 =>
      (isNil x68.2).bind fun x70 =>
      (isNil x67.2).bind fun x71 =>
      (unconsO x65.2).bind fun x72 =>
      (asObCells x72.1).bind fun x73 =>
      (uncons x73).bind fun x74 =>
      (asRows (x74.1)).bind fun x75 =>
      (isNil x74.2).bind fun x76 =>
      (unconsO x72.2).bind fun x77 =>
      (asObCells x77.1).bind fun x78 =>
      (uncons x78).bind fun x79 =>
      (asRows (x79.1)).bind fun x80 =>
      (isNil x79.2).bind fun x81 =>
      (unconsO x77.2).bind fun x82 =>
      (asLoop x82.1).bind fun x83 =>
      cond (decide (0 ≤ x21)) (
       cond (decide (x21.toNat ≤ x80.length)) (
        cond (headIs 6 x80) (
         (C.w (roundK Go.Ab.G20 Go.Ab.L20 C 66 none 7) ⟨(sp 0 63 [(0, .fn (.yield 9) [] []), (2, .ptr 8 0), (4, .int .i64 x21), (6, .box [.int .i64 x24, .int .i64 x26, .slice .any x28, .slice .any x30, .slice .any x32, .slice .any x34]), (9, .slice .any x36), (10, .int .i64 x37), (11, .int .i64 x38), (33, .slice .any ((x80.take x80.length).drop x21.toNat)), (34, .int .i64 ((((x80.take x80.length).drop x21.toNat).length : Nat) : Int)), (35, .int .i64 0)]), [.cells [.slice .any x42], .cells [.slice .any x47], .cells [.int .i64 x52, .int .i64 x54], .arr true 2 x57, .cells [.arr 3 x61 2], .loop x64, .cells [.fn (.yield 5) [] []], .cells [.slice .any x75], .cells [.slice .any x80], .loop x83]⟩).bind fun x84 =>
         match x84.1 with
         | .normal =>
           none
         | .exit x86 =>
           cond (Nat.beq x86 4) (
            (asFn (.yield 9) ((nth x84.2.t 0))).bind fun x157 =>
            (isNil x157.1).bind fun x158 =>
            (isNil x157.2).bind fun x159 =>
            (asPtr 8 0 ((nth x84.2.t 2))).bind fun x160 =>
            (asInt .i64 ((nth x84.2.t 4))).bind fun x161 =>
            (asBox ((nth x84.2.t 6))).bind fun x162 =>
            (uncons x162).bind fun x163 =>
            (asInt .i64 (x163.1)).bind fun x164 =>
            (uncons x163.2).bind fun x165 =>
            (asInt .i64 (x165.1)).bind fun x166 =>
            (uncons x165.2).bind fun x167 =>
            (asRows (x167.1)).bind fun x168 =>
            (uncons x167.2).bind fun x169 =>
            (asRows (x169.1)).bind fun x170 =>
            (uncons x169.2).bind fun x171 =>
            (asRows (x171.1)).bind fun x172 =>
            (uncons x171.2).bind fun x173 =>
            (asRows (x173.1)).bind fun x174 =>
            (isNil x173.2).bind fun x175 =>
            (asRows ((nth x84.2.t 9))).bind fun x176 =>
            (asInt .i64 ((nth x84.2.t 10))).bind fun x177 =>
            (asInt .i64 ((nth x84.2.t 11))).bind fun x178 =>
            (asRows ((nth x84.2.t 33))).bind fun x179 =>
            (asInt .i64 ((nth x84.2.t 34))).bind fun x180 =>
            (asInt .i64 ((nth x84.2.t 35))).bind fun x181 =>
            (unconsO x84.2.h).bind fun x182 =>
            (asObCells x182.1).bind fun x183 =>
            (uncons x183).bind fun x184 =>
            (asRows (x184.1)).bind fun x185 =>
            (isNil x184.2).bind fun x186 =>
            (unconsO x182.2).bind fun x187 =>
            (asObCells x187.1).bind fun x188 =>
            (uncons x188).bind fun x189 =>
            (asRows (x189.1)).bind fun x190 =>
            (isNil x189.2).bind fun x191 =>
            (unconsO x187.2).bind fun x192 =>
            (asObCells x192.1).bind fun x193 =>
            (uncons x193).bind fun x194 =>
            (asInt .i64 (x194.1)).bind fun x195 =>
            (uncons x194.2).bind fun x196 =>
            (asInt .i64 (x196.1)).bind fun x197 =>
            (isNil x196.2).bind fun x198 =>
            (unconsO x192.2).bind fun x199 =>
            (asObArr true 2 x199.1).bind fun x200 =>
            (unconsO x199.2).bind fun x201 =>
            (asObCells x201.1).bind fun x202 =>
            (uncons x202).bind fun x203 =>
            (asArr 3 2 (x203.1)).bind fun x204 =>
            (isNil x203.2).bind fun x205 =>
            (unconsO x201.2).bind fun x206 =>
            (asLoop x206.1).bind fun x207 =>
            (unconsO x206.2).bind fun x208 =>
            (asObCells x208.1).bind fun x209 =>
            (uncons x209).bind fun x210 =>
            (asFn (.yield 5) (x210.1)).bind fun x211 =>
            (isNil x211.1).bind fun x212 =>
            (isNil x211.2).bind fun x213 =>
            (isNil x210.2).bind fun x214 =>
            (unconsO x208.2).bind fun x215 =>
            (asObCells x215.1).bind fun x216 =>
            (uncons x216).bind fun x217 =>
            (asRows (x217.1)).bind fun x218 =>
            (isNil x217.2).bind fun x219 =>
            (unconsO x215.2).bind fun x220 =>
            (asObCells x220.1).bind fun x221 =>
            (uncons x221).bind fun x222 =>
            (asRows (x222.1)).bind fun x223 =>
            (isNil x222.2).bind fun x224 =>
            (unconsO x220.2).bind fun x225 =>
            (asLoop x225.1).bind fun x226 =>
            some (.normal, ⟨(sp 0 63 [(0, .fn (.yield 9) [] []), (2, .ptr 8 0), (4, .int .i64 x161), (9, .slice .any x176), (10, .int .i64 x177), (11, .int .i64 (Go.IntKind.wrap .i64 (x178 + 1)))]), [.cells [.slice .any x185], .cells [.slice .any x190], .cells [.int .i64 x195, .int .i64 x197], .arr true 2 x200, .cells [.arr 3 x204 2], .loop x207, .cells [.fn (.yield 5) [] []], .cells [.slice .any x218], .cells [.slice .any x223], .loop x226]⟩)) (
            cond (Nat.beq x86 1) (
             (asFn (.yield 9) ((nth x84.2.t 0))).bind fun x87 =>
             (isNil x87.1).bind fun x88 =>
             (isNil x87.2).bind fun x89 =>
             (asPtr 8 0 ((nth x84.2.t 2))).bind fun x90 =>
             (asInt .i64 ((nth x84.2.t 4))).bind fun x91 =>
             (asBox ((nth x84.2.t 6))).bind fun x92 =>
             (uncons x92).bind fun x93 =>
             (asInt .i64 (x93.1)).bind fun x94 =>
             (uncons x93.2).bind fun x95 =>
             (asInt .i64 (x95.1)).bind fun x96 =>
             (uncons x95.2).bind fun x97 =>
             (asRows (x97.1)).bind fun x98 =>
             (uncons x97.2).bind fun x99 =>
             (asRows (x99.1)).bind fun x100 =>
             (uncons x99.2).bind fun x101 =>
             (asRows (x101.1)).bind fun x102 =>
             (uncons x101.2).bind fun x103 =>
             (asRows (x103.1)).bind fun x104 =>
             (isNil x103.2).bind fun x105 =>
             (asRows ((nth x84.2.t 9))).bind fun x106 =>
             (asInt .i64 ((nth x84.2.t 10))).bind fun x107 =>
             (asInt .i64 ((nth x84.2.t 11))).bind fun x108 =>
             (asRows ((nth x84.2.t 33))).bind fun x109 =>
             (asInt .i64 ((nth x84.2.t 34))).bind fun x110 =>
             (asInt .i64 ((nth x84.2.t 35))).bind fun x111 =>
             (unconsO x84.2.h).bind fun x112 =>
             (asObCells x112.1).bind fun x113 =>
             (uncons x113).bind fun x114 =>
             (asRows (x114.1)).bind fun x115 =>
             (isNil x114.2).bind fun x116 =>
             (unconsO x112.2).bind fun x117 =>
             (asObCells x117.1).bind fun x118 =>
             (uncons x118).bind fun x119 =>
             (asRows (x119.1)).bind fun x120 =>
             (isNil x119.2).bind fun x121 =>
             (unconsO x117.2).bind fun x122 =>
             (asObCells x122.1).bind fun x123 =>
             (uncons x123).bind fun x124 =>
             (asInt .i64 (x124.1)).bind fun x125 =>
             (uncons x124.2).bind fun x126 =>
             (asInt .i64 (x126.1)).bind fun x127 =>
             (isNil x126.2).bind fun x128 =>
             (unconsO x122.2).bind fun x129 =>
             (asObArr true 2 x129.1).bind fun x130 =>
             (unconsO x129.2).bind fun x131 =>
             (asObCells x131.1).bind fun x132 =>
             (uncons x132).bind fun x133 =>
             (asArr 3 2 (x133.1)).bind fun x134 =>
             (isNil x133.2).bind fun x135 =>
             (unconsO x131.2).bind fun x136 =>
             (asLoop x136.1).bind fun x137 =>
             (unconsO x136.2).bind fun x138 =>
             (asObCells x138.1).bind fun x139 =>
             (uncons x139).bind fun x140 =>
             (asFn (.yield 5) (x140.1)).bind fun x141 =>
             (isNil x141.1).bind fun x142 =>
             (isNil x141.2).bind fun x143 =>
             (isNil x140.2).bind fun x144 =>
             (unconsO x138.2).bind fun x145 =>
             (asObCells x145.1).bind fun x146 =>
             (uncons x146).bind fun x147 =>
             (asRows (x147.1)).bind fun x148 =>
             (isNil x147.2).bind fun x149 =>
             (unconsO x145.2).bind fun x150 =>
             (asObCells x150.1).bind fun x151 =>
             (uncons x151).bind fun x152 =>
             (asRows (x152.1)).bind fun x153 =>
             (isNil x152.2).bind fun x154 =>
             (unconsO x150.2).bind fun x155 =>
             (asLoop x155.1).bind fun x156 =>
             some (.normal, ⟨(sp 0 63 [(0, .fn (.yield 9) [] []), (2, .ptr 8 0), (4, .int .i64 x91), (9, .slice .any x106), (10, .int .i64 x107), (11, .int .i64 (Go.IntKind.wrap .i64 (x108 + 1)))]), [.cells [.slice .any x115], .cells [.slice .any x120], .cells [.int .i64 x125, .int .i64 x127], .arr true 2 x130, .cells [.arr 3 x134 2], .loop x137, .cells [.fn (.yield 5) [] []], .cells [.slice .any x148], .cells [.slice .any x153], .loop x156]⟩)) (
             none))
         | .ret =>
           (asFn (.yield 9) ((nth x84.2.t 0))).bind fun x227 =>
           (isNil x227.1).bind fun x228 =>
           (isNil x227.2).bind fun x229 =>
           (asPtr 8 0 ((nth x84.2.t 2))).bind fun x230 =>
           (asInt .i64 ((nth x84.2.t 4))).bind fun x231 =>
           (asBox ((nth x84.2.t 6))).bind fun x232 =>
           (uncons x232).bind fun x233 =>
           (asInt .i64 (x233.1)).bind fun x234 =>
           (uncons x233.2).bind fun x235 =>
           (asInt .i64 (x235.1)).bind fun x236 =>
           (uncons x235.2).bind fun x237 =>
           (asRows (x237.1)).bind fun x238 =>
           (uncons x237.2).bind fun x239 =>
           (asRows (x239.1)).bind fun x240 =>
           (uncons x239.2).bind fun x241 =>
           (asRows (x241.1)).bind fun x242 =>
           (uncons x241.2).bind fun x243 =>
           (asRows (x243.1)).bind fun x244 =>
           (isNil x243.2).bind fun x245 =>
           (asRows ((nth x84.2.t 9))).bind fun x246 =>
           (asInt .i64 ((nth x84.2.t 10))).bind fun x247 =>
           (asInt .i64 ((nth x84.2.t 11))).bind fun x248 =>
           (asRows ((nth x84.2.t 33))).bind fun x249 =>
           (asInt .i64 ((nth x84.2.t 34))).bind fun x250 =>
           (asInt .i64 ((nth x84.2.t 35))).bind fun x251 =>
           (unconsO x84.2.h).bind fun x252 =>
           (asObCells x252.1).bind fun x253 =>
           (uncons x253).bind fun x254 =>
           (asRows (x254.1)).bind fun x255 =>
           (isNil x254.2).bind fun x256 =>
           (unconsO x252.2).bind fun x257 =>
           (asObCells x257.1).bind fun x258 =>
           (uncons x258).bind fun x259 =>
           (asRows (x259.1)).bind fun x260 =>
           (isNil x259.2).bind fun x261 =>
           (unconsO x257.2).bind fun x262 =>
           (asObCells x262.1).bind fun x263 =>
           (uncons x263).bind fun x264 =>
           (asInt .i64 (x264.1)).bind fun x265 =>
           (uncons x264.2).bind fun x266 =>
           (asInt .i64 (x266.1)).bind fun x267 =>
           (isNil x266.2).bind fun x268 =>
           (unconsO x262.2).bind fun x269 =>
           (asObArr true 2 x269.1).bind fun x270 =>
           (unconsO x269.2).bind fun x271 =>
           (asObCells x271.1).bind fun x272 =>
           (uncons x272).bind fun x273 =>
           (asArr 3 2 (x273.1)).bind fun x274 =>
           (isNil x273.2).bind fun x275 =>
           (unconsO x271.2).bind fun x276 =>
           (asLoop x276.1).bind fun x277 =>
           (unconsO x276.2).bind fun x278 =>
           (asObCells x278.1).bind fun x279 =>
           (uncons x279).bind fun x280 =>
           (asFn (.yield 5) (x280.1)).bind fun x281 =>
           (isNil x281.1).bind fun x282 =>
           (isNil x281.2).bind fun x283 =>
           (isNil x280.2).bind fun x284 =>
           (unconsO x278.2).bind fun x285 =>
           (asObCells x285.1).bind fun x286 =>
           (uncons x286).bind fun x287 =>
           (asRows (x287.1)).bind fun x288 =>
           (isNil x287.2).bind fun x289 =>
           (unconsO x285.2).bind fun x290 =>
           (asObCells x290.1).bind fun x291 =>
           (uncons x291).bind fun x292 =>
           (asRows (x292.1)).bind fun x293 =>
           (isNil x292.2).bind fun x294 =>
           (unconsO x290.2).bind fun x295 =>
           (asLoop x295.1).bind fun x296 =>
           some (.ret, ⟨(sp 0 63 [(0, .fn (.yield 9) [] []), (2, .ptr 8 0), (4, .int .i64 x231), (9, .slice .any x246), (10, .int .i64 x247), (11, .int .i64 x248)]), [.cells [.slice .any x255], .cells [.slice .any x260], .cells [.int .i64 x265, .int .i64 x267], .arr true 2 x270, .cells [.arr 3 x274 2], .loop x277, .cells [.fn (.yield 5) [] []], .cells [.slice .any x288], .cells [.slice .any x293], .loop x296]⟩)) (
         none)) (
        none)) (
       none)) (
      none)
   | .ret =>
     none) (
   some ((.exit 0), ⟨(sp 0 63 [(0, .fn (.yield 9) [] []), (2, .ptr 8 0), (4, .int .i64 n9), (9, .slice .any r10), (10, .int .i64 n11), (11, .int .i64 n12)]), [.cells [.slice .any r1], .cells [.slice .any r2], .cells [.int .i64 n3, .int .i64 n4], .arr true 2 r0, .cells [.arr 3 r0.length 2], .loop l5, .cells [.fn (.yield 5) [] []], .cells [.slice .any r6], .cells [.slice .any r7], .loop l8]⟩)) := by kernel_rfl

theorem s66_q (C : CallT) (r0 : List (List V)) (r1 : List (List V)) (r2 : List (List V)) (n3 : Int) (n4 : Int) (l5 : LoopA) (r6 : List (List V)) (r7 : List (List V)) (l8 : LoopA) : run1 Go.Ab.G20 Go.Ab.L20 C (.func 66) [.fn (.yield 9) [] [], .ptr 7 0, .ptr 8 0] [.cells [.slice .any r1], .cells [.slice .any r2], .cells [.int .i64 n3, .int .i64 n4], .arr true 2 r0, .cells [.arr 3 r0.length 2], .loop l5, .cells [.fn (.yield 5) [] []], .cells [.slice .any r6], .cells [.slice .any r7], .loop l8] =
  (C.w (roundK Go.Ab.G20 Go.Ab.L20 C 66 none 2) ⟨(sp 0 63 [(0, .fn (.yield 9) [] []), (2, .ptr 8 0), (4, .int .i64 0), (9, .slice .any r6), (10, .int .i64 ((r6.length : Nat) : Int)), (11, .int .i64 0)]), [.cells [.slice .any r1], .cells [.slice .any r2], .cells [.int .i64 n3, .int .i64 n4], .arr true 2 r0, .cells [.arr 3 r0.length 2], .loop l5, .cells [.fn (.yield 5) [] []], .cells [.slice .any r6], .cells [.slice .any r7], .loop l8]⟩).bind fun x0 =>
  match x0.1 with
  | .normal =>
    none
  | .exit x2 =>
    cond (Nat.beq x2 0) (
     (asFn (.yield 9) ((nth x0.2.t 0))).bind fun x3 =>
     (isNil x3.1).bind fun x4 =>
     (isNil x3.2).bind fun x5 =>
     (asPtr 8 0 ((nth x0.2.t 2))).bind fun x6 =>
     (asInt .i64 ((nth x0.2.t 4))).bind fun x7 =>
     (asRows ((nth x0.2.t 9))).bind fun x8 =>
     (asInt .i64 ((nth x0.2.t 10))).bind fun x9 =>
     (asInt .i64 ((nth x0.2.t 11))).bind fun x10 =>
     (unconsO x0.2.h).bind fun x11 =>
     (asObCells x11.1).bind fun x12 =>
     (uncons x12).bind fun x13 =>
     (asRows (x13.1)).bind fun x14 =>
     (isNil x13.2).bind fun x15 =>
     (unconsO x11.2).bind fun x16 =>
     (asObCells x16.1).bind fun x17 =>
     (uncons x17).bind fun x18 =>
     (asRows (x18.1)).bind fun x19 =>
     (isNil x18.2).bind fun x20 =>
     (unconsO x16.2).bind fun x21 =>
     (asObCells x21.1).bind fun x22 =>
     (uncons x22).bind fun x23 =>
     (asInt .i64 (x23.1)).bind fun x24 =>
     (uncons x23.2).bind fun x25 =>
     (asInt .i64 (x25.1)).bind fun x26 =>
     (isNil x25.2).bind fun x27 =>
     (unconsO x21.2).bind fun x28 =>
     (asObArr true 2 x28.1).bind fun x29 =>
     (unconsO x28.2).bind fun x30 =>
     (asObCells x30.1).bind fun x31 =>
     (uncons x31).bind fun x32 =>
     (asArr 3 2 (x32.1)).bind fun x33 =>
     (isNil x32.2).bind fun x34 =>
     (unconsO x30.2).bind fun x35 =>
     (asLoop x35.1).bind fun x36 =>
     (unconsO x35.2).bind fun x37 =>
     (asObCells x37.1).bind fun x38 =>
     (uncons x38).bind fun x39 =>
     (asFn (.yield 5) (x39.1)).bind fun x40 =>
     (isNil x40.1).bind fun x41 =>
     (isNil x40.2).bind fun x42 =>
     (isNil x39.2).bind fun x43 =>
     (unconsO x37.2).bind fun x44 =>
     (asObCells x44.1).bind fun x45 =>
     (uncons x45).bind fun x46 =>
     (asRows (x46.1)).bind fun x47 =>
     (isNil x46.2).bind fun x48 =>
     (unconsO x44.2).bind fun x49 =>
     (asObCells x49.1).bind fun x50 =>
     (uncons x50).bind fun x51 =>
     (asRows (x51.1)).bind fun x52 =>
     (isNil x51.2).bind fun x53 =>
     (unconsO x49.2).bind fun x54 =>
     (asLoop x54.1).bind fun x55 =>
     some (.tuple [], [.cells [.slice .any x14], .cells [.slice .any x19], .cells [.int .i64 x24, .int .i64 x26], .arr true 2 x29, .cells [.arr 3 x33 2], .loop x36, .cells [.fn (.yield 5) [] []], .cells [.slice .any x47], .cells [.slice .any x52], .loop x55])) (
     none)
  | .ret =>
    (asFn (.yield 9) ((nth x0.2.t 0))).bind fun x56 =>
    (isNil x56.1).bind fun x57 =>
    (isNil x56.2).bind fun x58 =>
    (asPtr 8 0 ((nth x0.2.t 2))).bind fun x59 =>
    (asInt .i64 ((nth x0.2.t 4))).bind fun x60 =>
    (asRows ((nth x0.2.t 9))).bind fun x61 =>
    (asInt .i64 ((nth x0.2.t 10))).bind fun x62 =>
    (asInt .i64 ((nth x0.2.t 11))).bind fun x63 =>
    (unconsO x0.2.h).bind fun x64 =>
    (asObCells x64.1).bind fun x65 =>
    (uncons x65).bind fun x66 =>
    (asRows (x66.1)).bind fun x67 =>
    (isNil x66.2).bind fun x68 =>
    (unconsO x64.2).bind fun x69 =>
    (asObCells x69.1).bind fun x70 =>
    (uncons x70).bind fun x71 =>
    (asRows (x71.1)).bind fun x72 =>
    (isNil x71.2).bind fun x73 =>
    (unconsO x69.2).bind fun x74 =>
    (asObCells x74.1).bind fun x75 =>
    (uncons x75).bind fun x76 =>
    (asInt .i64 (x76.1)).bind fun x77 =>
    (uncons x76.2).bind fun x78 =>
    (asInt .i64 (x78.1)).bind fun x79 =>
    (isNil x78.2).bind fun x80 =>
    (unconsO x74.2).bind fun x81 =>
    (asObArr true 2 x81.1).bind fun x82 =>
    (unconsO x81.2).bind fun x83 =>
    (asObCells x83.1).bind fun x84 =>
    (uncons x84).bind fun x85 =>
    (asArr 3 2 (x85.1)).bind fun x86 =>
    (isNil x85.2).bind fun x87 =>
    (unconsO x83.2).bind fun x88 =>
    (asLoop x88.1).bind fun x89 =>
    (unconsO x88.2).bind fun x90 =>
    (asObCells x90.1).bind fun x91 =>
    (uncons x91).bind fun x92 =>
    (asFn (.yield 5) (x92.1)).bind fun x93 =>
    (isNil x93.1).bind fun x94 =>
    (isNil x93.2).bind fun x95 =>
    (isNil x92.2).bind fun x96 =>
    (unconsO x90.2).bind fun x97 =>
    (asObCells x97.1).bind fun x98 =>
    (uncons x98).bind fun x99 =>
    (asRows (x99.1)).bind fun x100 =>
    (isNil x99.2).bind fun x101 =>
    (unconsO x97.2).bind fun x102 =>
    (asObCells x102.1).bind fun x103 =>
    (uncons x103).bind fun x104 =>
    (asRows (x104.1)).bind fun x105 =>
    (isNil x104.2).bind fun x106 =>
    (unconsO x102.2).bind fun x107 =>
    (asLoop x107.1).bind fun x108 =>
    some (.tuple [], [.cells [.slice .any x67], .cells [.slice .any x72], .cells [.int .i64 x77, .int .i64 x79], .arr true 2 x82, .cells [.arr 3 x86 2], .loop x89, .cells [.fn (.yield 5) [] []], .cells [.slice .any x100], .cells [.slice .any x105], .loop x108]) := by kernel_rfl

theorem s40_q (C : CallT) (r0 : List (List V)) (r1 : List (List V)) (r2 : List (List V)) (n3 : Int) (n4 : Int) (l5 : LoopA) (r6 : List (List V)) (r7 : List (List V)) : run1 Go.Ab.G20 Go.Ab.L20 C (.func 40) [.slice .any r6, .slice .any r7] [.cells [.slice .any r1], .cells [.slice .any r2], .cells [.int .i64 n3, .int .i64 n4], .arr true 2 r0, .cells [.arr 3 r0.length 2], .loop l5, .cells [.fn (.yield 5) [] []]] =
  some (.fn (.func 66) [] [.ptr 7 0, .ptr 8 0], [.cells [.slice .any r1], .cells [.slice .any r2], .cells [.int .i64 n3, .int .i64 n4], .arr true 2 r0, .cells [.arr 3 r0.length 2], .loop l5, .cells [.fn (.yield 5) [] []], .cells [.slice .any r6], .cells [.slice .any r7]]) := by kernel_rfl

theorem s73_q (C : CallT) (r0 : List (List V)) (r1 : List (List V)) (r2 : List (List V)) (n3 : Int) (n4 : Int) (l5 : LoopA) : run1 Go.Ab.G20 Go.Ab.L20 C (.func 73) [.fn (.yield 5) [] [], .ptr 0 0, .ptr 1 0, .ptr 2 0] [.cells [.slice .any r1], .cells [.slice .any r2], .cells [.int .i64 n3, .int .i64 n4], .arr true 2 r0, .cells [.arr 3 r0.length 2], .loop l5] =
  (C.s (.func 40) [.slice .any r1, .slice .any r2] [.cells [.slice .any r1], .cells [.slice .any r2], .cells [.int .i64 n3, .int .i64 n4], .arr true 2 r0, .cells [.arr 3 r0.length 2], .loop l5, .cells [.fn (.yield 5) [] []]]).bind fun x0 =>
  (asFn (.func 66) (x0.1)).bind fun x1 =>
  (isNil x1.1).bind fun x2 =>
  (uncons x1.2).bind fun x3 =>
  (asPtr 7 0 (x3.1)).bind fun x4 =>
  (uncons x3.2).bind fun x5 =>
  (asPtr 8 0 (x5.1)).bind fun x6 =>
  (isNil x5.2).bind fun x7 =>
  (unconsO x0.2).bind fun x8 =>
  (asObCells x8.1).bind fun x9 =>
  (uncons x9).bind fun x10 =>
  (asRows (x10.1)).bind fun x11 =>
  (isNil x10.2).bind fun x12 =>
  (unconsO x8.2).bind fun x13 =>
  (asObCells x13.1).bind fun x14 =>
  (uncons x14).bind fun x15 =>
  (asRows (x15.1)).bind fun x16 =>
  (isNil x15.2).bind fun x17 =>
  (unconsO x13.2).bind fun x18 =>
  (asObCells x18.1).bind fun x19 =>
  (uncons x19).bind fun x20 =>
  (asInt .i64 (x20.1)).bind fun x21 =>
  (uncons x20.2).bind fun x22 =>
  (asInt .i64 (x22.1)).bind fun x23 =>
  (isNil x22.2).bind fun x24 =>
  (unconsO x18.2).bind fun x25 =>
  (asObArr true 2 x25.1).bind fun x26 =>
  (unconsO x25.2).bind fun x27 =>
  (asObCells x27.1).bind fun x28 =>
  (uncons x28).bind fun x29 =>
  (asArr 3 2 (x29.1)).bind fun x30 =>
  (isNil x29.2).bind fun x31 =>
  (unconsO x27.2).bind fun x32 =>
  (asLoop x32.1).bind fun x33 =>
  (unconsO x32.2).bind fun x34 =>
  (asObCells x34.1).bind fun x35 =>
  (uncons x35).bind fun x36 =>
  (asFn (.yield 5) (x36.1)).bind fun x37 =>
  (isNil x37.1).bind fun x38 =>
  (isNil x37.2).bind fun x39 =>
  (isNil x36.2).bind fun x40 =>
  (unconsO x34.2).bind fun x41 =>
  (asObCells x41.1).bind fun x42 =>
  (uncons x42).bind fun x43 =>
  (asRows (x43.1)).bind fun x44 =>
  (isNil x43.2).bind fun x45 =>
  (unconsO x41.2).bind fun x46 =>
  (asObCells x46.1).bind fun x47 =>
  (uncons x47).bind fun x48 =>
  (asRows (x48.1)).bind fun x49 =>
  (isNil x48.2).bind fun x50 =>
  (C.s (.func 66) [.fn (.yield 9) [] [], .ptr 7 0, .ptr 8 0] [.cells [.slice .any x11], .cells [.slice .any x16], .cells [.int .i64 x21, .int .i64 x23], .arr true 2 x26, .cells [.arr 3 x30 2], .loop x33, .cells [.fn (.yield 5) [] []], .cells [.slice .any x44], .cells [.slice .any x49], .loop ⟨.ready, none, (sp 0 33 [(0, .fn (.yield 5) [] []), (1, .ptr 0 0), (2, .ptr 1 0), (3, .ptr 2 0), (4, .ptr 6 0), (6, .slice .any r1), (7, .slice .any r2), (8, .fn (.func 66) [] [.ptr 7 0, .ptr 8 0])]), 73, [9], rangeAssign GP 73 3, rangeBody GP 73 3⟩]).bind fun x51 =>
  (unconsO x51.2).bind fun x52 =>
  (asObCells x52.1).bind fun x53 =>
  (uncons x53).bind fun x54 =>
  (asRows (x54.1)).bind fun x55 =>
  (isNil x54.2).bind fun x56 =>
  (unconsO x52.2).bind fun x57 =>
  (asObCells x57.1).bind fun x58 =>
  (uncons x58).bind fun x59 =>
  (asRows (x59.1)).bind fun x60 =>
  (isNil x59.2).bind fun x61 =>
  (unconsO x57.2).bind fun x62 =>
  (asObCells x62.1).bind fun x63 =>
  (uncons x63).bind fun x64 =>
  (asInt .i64 (x64.1)).bind fun x65 =>
  (uncons x64.2).bind fun x66 =>
  (asInt .i64 (x66.1)).bind fun x67 =>
  (isNil x66.2).bind fun x68 =>
  (unconsO x62.2).bind fun x69 =>
  (asObArr true 2 x69.1).bind fun x70 =>
  (unconsO x69.2).bind fun x71 =>
  (asObCells x71.1).bind fun x72 =>
  (uncons x72).bind fun x73 =>
  (asArr 3 2 (x73.1)).bind fun x74 =>
  (isNil x73.2).bind fun x75 =>
  (unconsO x71.2).bind fun x76 =>
  (asLoop x76.1).bind fun x77 =>
  (unconsO x76.2).bind fun x78 =>
  (asObCells x78.1).bind fun x79 =>
  (uncons x79).bind fun x80 =>
  (asFn (.yield 5) (x80.1)).bind fun x81 =>
  (isNil x81.1).bind fun x82 =>
  (isNil x81.2).bind fun x83 =>
  (isNil x80.2).bind fun x84 =>
  (unconsO x78.2).bind fun x85 =>
  (asObCells x85.1).bind fun x86 =>
  (uncons x86).bind fun x87 =>
  (asRows (x87.1)).bind fun x88 =>
  (isNil x87.2).bind fun x89 =>
  (unconsO x85.2).bind fun x90 =>
  (asObCells x90.1).bind fun x91 =>
  (uncons x91).bind fun x92 =>
  (asRows (x92.1)).bind fun x93 =>
  (isNil x92.2).bind fun x94 =>
  (unconsO x90.2).bind fun x95 =>
  (asLoop x95.1).bind fun x96 =>
  (endOf x96).bind fun x97 =>
  match x97 with
  | none =>
    some (.tuple [], [.cells [.slice .any x55], .cells [.slice .any x60], .cells [.int .i64 x65, .int .i64 x67], .arr true 2 x70, .cells [.arr 3 x74 2], .loop x77, .cells [.fn (.yield 5) [] []], .cells [.slice .any x88], .cells [.slice .any x93]])
  | some x98 =>
    match x98 with
    | .normal =>
      none
    | .exit x100 =>
      none
    | .ret =>
      some (.tuple [], [.cells [.slice .any x55], .cells [.slice .any x60], .cells [.int .i64 x65, .int .i64 x67], .arr true 2 x70, .cells [.arr 3 x74 2], .loop x77, .cells [.fn (.yield 5) [] []], .cells [.slice .any x88], .cells [.slice .any x93]]) := by kernel_rfl

theorem s76_q (C : CallT) (r0 : List (List V)) (r1 : List (List V)) (n2 : Int) (n3 : Int) : run1 Go.Ab.G20 Go.Ab.L20 C (.func 76) [.slice .nil [], .fn (.func 73) [] [.ptr 0 0, .ptr 1 0, .ptr 2 0]] [.cells [.slice .any r0], .cells [.slice .any r1], .cells [.int .i64 n2, .int .i64 n3]] =
  (C.s (.func 73) [.fn (.yield 5) [] [], .ptr 0 0, .ptr 1 0, .ptr 2 0] [.cells [.slice .any r0], .cells [.slice .any r1], .cells [.int .i64 n2, .int .i64 n3], .arr true 2 [], .cells [.arr 3 0 2], .loop ⟨.ready, none, (sp 0 13 [(0, .slice .nil []), (1, .fn (.func 73) [] [.ptr 0 0, .ptr 1 0, .ptr 2 0]), (2, .ptr 4 0), (4, .slice .nil []), (6, .fn (.func 73) [] [.ptr 0 0, .ptr 1 0, .ptr 2 0])]), 76, [7], rangeAssign GP 76 3, rangeBody GP 76 3⟩]).bind fun x0 =>
  (unconsO x0.2).bind fun x1 =>
  (asObCells x1.1).bind fun x2 =>
  (uncons x2).bind fun x3 =>
  (asRows (x3.1)).bind fun x4 =>
  (isNil x3.2).bind fun x5 =>
  (unconsO x1.2).bind fun x6 =>
  (asObCells x6.1).bind fun x7 =>
  (uncons x7).bind fun x8 =>
  (asRows (x8.1)).bind fun x9 =>
  (isNil x8.2).bind fun x10 =>
  (unconsO x6.2).bind fun x11 =>
  (asObCells x11.1).bind fun x12 =>
  (uncons x12).bind fun x13 =>
  (asInt .i64 (x13.1)).bind fun x14 =>
  (uncons x13.2).bind fun x15 =>
  (asInt .i64 (x15.1)).bind fun x16 =>
  (isNil x15.2).bind fun x17 =>
  (unconsO x11.2).bind fun x18 =>
  (asObArr true 2 x18.1).bind fun x19 =>
  (unconsO x18.2).bind fun x20 =>
  (asObCells x20.1).bind fun x21 =>
  (uncons x21).bind fun x22 =>
  (asArr 3 2 (x22.1)).bind fun x23 =>
  (isNil x22.2).bind fun x24 =>
  (unconsO x20.2).bind fun x25 =>
  (asLoop x25.1).bind fun x26 =>
  (endOf x26).bind fun x27 =>
  match x27 with
  | none =>
    (arrRows [.cells [.slice .any x4], .cells [.slice .any x9], .cells [.int .i64 x14, .int .i64 x16], .arr true 2 x19, .cells [.arr 3 x23 2]] 3 x23).bind fun x29 =>
    some (.slice .any x29, [.cells [.slice .any x4], .cells [.slice .any x9], .cells [.int .i64 x14, .int .i64 x16], .arr false 2 x19, .cells [.arr 3 x23 2]])
  | some x28 =>
    match x28 with
    | .normal =>
      none
    | .exit x31 =>
      none
    | .ret =>
      none := by kernel_rfl

theorem s49_q (C : CallT) (r0 : List (List V)) (r1 : List (List V)) (n2 : Int) (n3 : Int) : run1 Go.Ab.G20 Go.Ab.L20 C (.func 49) [.fn (.func 73) [] [.ptr 0 0, .ptr 1 0, .ptr 2 0]] [.cells [.slice .any r0], .cells [.slice .any r1], .cells [.int .i64 n2, .int .i64 n3]] =
  (C.s (.func 76) [.slice .nil [], .fn (.func 73) [] [.ptr 0 0, .ptr 1 0, .ptr 2 0]] [.cells [.slice .any r0], .cells [.slice .any r1], .cells [.int .i64 n2, .int .i64 n3]]).bind fun x0 =>
  (asRows (x0.1)).bind fun x1 =>
  (unconsO x0.2).bind fun x2 =>
  (asObCells x2.1).bind fun x3 =>
  (uncons x3).bind fun x4 =>
  (asRows (x4.1)).bind fun x5 =>
  (isNil x4.2).bind fun x6 =>
  (unconsO x2.2).bind fun x7 =>
  (asObCells x7.1).bind fun x8 =>
  (uncons x8).bind fun x9 =>
  (asRows (x9.1)).bind fun x10 =>
  (isNil x9.2).bind fun x11 =>
  (unconsO x7.2).bind fun x12 =>
  (asObCells x12.1).bind fun x13 =>
  (uncons x13).bind fun x14 =>
  (asInt .i64 (x14.1)).bind fun x15 =>
  (uncons x14.2).bind fun x16 =>
  (asInt .i64 (x16.1)).bind fun x17 =>
  (isNil x16.2).bind fun x18 =>
  some (.slice .any x1, [.cells [.slice .any x5], .cells [.slice .any x10], .cells [.int .i64 x15, .int .i64 x17]]) := by kernel_rfl

theorem s44_q (C : CallT) (r0 : List (List V)) (r1 : List (List V)) (n2 : Int) (n3 : Int) : run1 Go.Ab.G20 Go.Ab.L20 C (.func 44) [.slice .any r0, .slice .any r1, .agg [.int .i64 n2, .int .i64 n3]] [] =
  some (.fn (.func 73) [] [.ptr 0 0, .ptr 1 0, .ptr 2 0], [.cells [.slice .any r0], .cells [.slice .any r1], .cells [.int .i64 n2, .int .i64 n3]]) := by kernel_rfl

theorem e21_q (C : CallT) (r0 : List (List V)) (r1 : List (List V)) (n2 : Int) (n3 : Int) : run1 Go.Ab.G20 Go.Ab.L20 C (.func 21) [.slice .any r0, .slice .any r1, .agg [.int .i64 n2, .int .i64 n3]] [] =
  (C.s (.func 44) [.slice .any r0, .slice .any r1, .agg [.int .i64 n2, .int .i64 n3]] []).bind fun x0 =>
  (asFn (.func 73) (x0.1)).bind fun x1 =>
  (isNil x1.1).bind fun x2 =>
  (uncons x1.2).bind fun x3 =>
  (asPtr 0 0 (x3.1)).bind fun x4 =>
  (uncons x3.2).bind fun x5 =>
  (asPtr 1 0 (x5.1)).bind fun x6 =>
  (uncons x5.2).bind fun x7 =>
  (asPtr 2 0 (x7.1)).bind fun x8 =>
  (isNil x7.2).bind fun x9 =>
  (unconsO x0.2).bind fun x10 =>
  (asObCells x10.1).bind fun x11 =>
  (uncons x11).bind fun x12 =>
  (asRows (x12.1)).bind fun x13 =>
  (isNil x12.2).bind fun x14 =>
  (unconsO x10.2).bind fun x15 =>
  (asObCells x15.1).bind fun x16 =>
  (uncons x16).bind fun x17 =>
  (asRows (x17.1)).bind fun x18 =>
  (isNil x17.2).bind fun x19 =>
  (unconsO x15.2).bind fun x20 =>
  (asObCells x20.1).bind fun x21 =>
  (uncons x21).bind fun x22 =>
  (asInt .i64 (x22.1)).bind fun x23 =>
  (uncons x22.2).bind fun x24 =>
  (asInt .i64 (x24.1)).bind fun x25 =>
  (isNil x24.2).bind fun x26 =>
  (C.s (.func 49) [.fn (.func 73) [] [.ptr 0 0, .ptr 1 0, .ptr 2 0]] [.cells [.slice .any x13], .cells [.slice .any x18], .cells [.int .i64 x23, .int .i64 x25]]).bind fun x27 =>
  (asRows (x27.1)).bind fun x28 =>
  (unconsO x27.2).bind fun x29 =>
  (asObCells x29.1).bind fun x30 =>
  (uncons x30).bind fun x31 =>
  (asRows (x31.1)).bind fun x32 =>
  (isNil x31.2).bind fun x33 =>
  (unconsO x29.2).bind fun x34 =>
  (asObCells x34.1).bind fun x35 =>
  (uncons x35).bind fun x36 =>
  (asRows (x36.1)).bind fun x37 =>
  (isNil x36.2).bind fun x38 =>
  (unconsO x34.2).bind fun x39 =>
  (asObCells x39.1).bind fun x40 =>
  (uncons x40).bind fun x41 =>
  (asInt .i64 (x41.1)).bind fun x42 =>
  (uncons x41.2).bind fun x43 =>
  (asInt .i64 (x43.1)).bind fun x44 =>
  (isNil x43.2).bind fun x45 =>
  (C.p (.func 50) [.slice .any x28, .fn (.func 51) [] []]).bind fun x46 =>
  (asTuple (x46)).bind fun x47 =>
  (isNil x47).bind fun x48 =>
  (C.w (roundK Go.Ab.G20 Go.Ab.L20 C 21 none 5) ⟨(sp 0 60 [(8, .arr 3 0 2), (19, .slice .any x28), (20, .int .i64 ((x28.length : Nat) : Int)), (21, .int .i64 0)]), [.cells [.slice .any x32], .cells [.slice .any x37], .cells [.int .i64 x42, .int .i64 x44], .arr true 2 []]⟩).bind fun x49 =>
  match x49.1 with
  | .normal =>
    none
  | .exit x51 =>
    cond (Nat.beq x51 0) (
     (asArr 3 2 ((nth x49.2.t 8))).bind fun x52 =>
     (asRows ((nth x49.2.t 19))).bind fun x53 =>
     (asInt .i64 ((nth x49.2.t 20))).bind fun x54 =>
     (asInt .i64 ((nth x49.2.t 21))).bind fun x55 =>
     (unconsO x49.2.h).bind fun x56 =>
     (asObCells x56.1).bind fun x57 =>
     (uncons x57).bind fun x58 =>
     (asRows (x58.1)).bind fun x59 =>
     (isNil x58.2).bind fun x60 =>
     (unconsO x56.2).bind fun x61 =>
     (asObCells x61.1).bind fun x62 =>
     (uncons x62).bind fun x63 =>
     (asRows (x63.1)).bind fun x64 =>
     (isNil x63.2).bind fun x65 =>
     (unconsO x61.2).bind fun x66 =>
     (asObCells x66.1).bind fun x67 =>
     (uncons x67).bind fun x68 =>
     (asInt .i64 (x68.1)).bind fun x69 =>
     (uncons x68.2).bind fun x70 =>
     (asInt .i64 (x70.1)).bind fun x71 =>
     (isNil x70.2).bind fun x72 =>
     (unconsO x66.2).bind fun x73 =>
     (asObArr true 2 x73.1).bind fun x74 =>
     (arrRows [.cells [.slice .any x59], .cells [.slice .any x64], .cells [.int .i64 x69, .int .i64 x71], .arr true 2 x74] 3 x52).bind fun x75 =>
     some (.slice .any x75, [.cells [.slice .any x59], .cells [.slice .any x64], .cells [.int .i64 x69, .int .i64 x71], .arr false 2 x74])) (
     none)
  | .ret =>
    none := by kernel_rfl


theorem e51 (C : CallT) (n0 : Int) (n1 : Int) (n2 : Int) (n3 : Int) : run1 Go.Ab.G20 Go.Ab.L20 C (.func 51) [.agg [.int .i64 n0, .int .i64 n1], .agg [.int .i64 n2, .int .i64 n3]] [] =
  (C.p (.func 52) [.int .i64 n0, .int .i64 n2]).bind fun x0 =>
  (asInt .i64 (x0)).bind fun x1 =>
  some (.int .i64 x1, []) := by kernel_rfl


end Go.Ab
