/- What the calls do, written out: by evaluation; conditions: none. -/
import Derived.KernelRfl
import Derived.Test.YtbfecmgiffkooaaT20
namespace Go.Ab
set_option linter.unusedVariables false
set_option linter.unusedSimpArgs false
set_option linter.unusedVariables false
set_option linter.unusedSimpArgs false
set_option linter.unusedVariables false
set_option maxHeartbeats 2000000
theorem e5_11 (C : CallT) (n0 : Int) (n1 : Int) (n2 : Int) (n3 : Int) (n4 : Int) (n5 : Int) (b6 : Bool) (b7 : Bool) (r8 : List (List V)) (r9 : List (List V)) (n10 : Int) (n11 : Int) (n12 : Int) (n13 : Int) (b14 : Bool) (b15 : Bool) (n16 : Int) (n17 : Int) : roundK Go.Ab.G20 Go.Ab.L20 C 5 none 11 ⟨(sp 0 121 [(3, .box [.int .u32 n0, .int .u32 n1, .int .u32 n2, .int .u32 n3, .int .u32 n4, .int .u32 n5]), (4, .bool b6), (5, .bool b7), (6, .slice .any r8), (7, .slice .any r9), (8, .box [.int .i64 n10, .int .i64 n11]), (9, .box [.int .i64 n12, .int .i64 n13]), (10, .bool b14), (11, .bool b15), (12, .int .i64 n16), (13, .int .i64 n17)]), []⟩ =
  cond (decide (n17 < ((r9.length : Nat) : Int))) (
   (getRow r8 n16 6).bind fun x0 =>
   (uncons x0).bind fun x1 =>
   (asInt .i64 (x1.1)).bind fun x2 =>
   (uncons x1.2).bind fun x3 =>
   (asInt .i64 (x3.1)).bind fun x4 =>
   (uncons x3.2).bind fun x5 =>
   (asRows (x5.1)).bind fun x6 =>
   (uncons x5.2).bind fun x7 =>
   (asRows (x7.1)).bind fun x8 =>
   (uncons x7.2).bind fun x9 =>
   (asRows (x9.1)).bind fun x10 =>
   (uncons x9.2).bind fun x11 =>
   (asRows (x11.1)).bind fun x12 =>
   (isNil x11.2).bind fun x13 =>
   (C.p (.func 24) [.agg [.int .i64 x2, .int .i64 x4, .slice .any x6, .slice .any x8, .slice .any x10, .slice .any x12]]).bind fun x14 =>
   (asCells (x14)).bind fun x15 =>
   (uncons x15).bind fun x16 =>
   (asInt .i64 (x16.1)).bind fun x17 =>
   (uncons x16.2).bind fun x18 =>
   (asInt .i64 (x18.1)).bind fun x19 =>
   (isNil x18.2).bind fun x20 =>
   (getRow r9 n17 6).bind fun x21 =>
   (uncons x21).bind fun x22 =>
   (asInt .i64 (x22.1)).bind fun x23 =>
   (uncons x22.2).bind fun x24 =>
   (asInt .i64 (x24.1)).bind fun x25 =>
   (uncons x24.2).bind fun x26 =>
   (asRows (x26.1)).bind fun x27 =>
   (uncons x26.2).bind fun x28 =>
   (asRows (x28.1)).bind fun x29 =>
   (uncons x28.2).bind fun x30 =>
   (asRows (x30.1)).bind fun x31 =>
   (uncons x30.2).bind fun x32 =>
   (asRows (x32.1)).bind fun x33 =>
   (isNil x32.2).bind fun x34 =>
   (C.p (.func 24) [.agg [.int .i64 x23, .int .i64 x25, .slice .any x27, .slice .any x29, .slice .any x31, .slice .any x33]]).bind fun x35 =>
   (asCells (x35)).bind fun x36 =>
   (uncons x36).bind fun x37 =>
   (asInt .i64 (x37.1)).bind fun x38 =>
   (uncons x37.2).bind fun x39 =>
   (asInt .i64 (x39.1)).bind fun x40 =>
   (isNil x39.2).bind fun x41 =>
   (C.p (.func 23) [.agg [.int .i64 x17, .int .i64 x19], .agg [.int .i64 x38, .int .i64 x40]]).bind fun x42 =>
   (asTuple (x42)).bind fun x43 =>
   (uncons x43).bind fun x44 =>
   (asCells (x44.1)).bind fun x45 =>
   (uncons x45).bind fun x46 =>
   (asInt .i64 (x46.1)).bind fun x47 =>
   (uncons x46.2).bind fun x48 =>
   (asInt .i64 (x48.1)).bind fun x49 =>
   (isNil x48.2).bind fun x50 =>
   (uncons x44.2).bind fun x51 =>
   (asBool (x51.1)).bind fun x52 =>
   (isNil x51.2).bind fun x53 =>
   (getRow r8 n16 6).bind fun x54 =>
   (uncons x54).bind fun x55 =>
   (asInt .i64 (x55.1)).bind fun x56 =>
   (uncons x55.2).bind fun x57 =>
   (asInt .i64 (x57.1)).bind fun x58 =>
   (uncons x57.2).bind fun x59 =>
   (asRows (x59.1)).bind fun x60 =>
   (uncons x59.2).bind fun x61 =>
   (asRows (x61.1)).bind fun x62 =>
   (uncons x61.2).bind fun x63 =>
   (asRows (x63.1)).bind fun x64 =>
   (uncons x63.2).bind fun x65 =>
   (asRows (x65.1)).bind fun x66 =>
   (isNil x65.2).bind fun x67 =>
   cond (decide (0 ≤ n10)) (
    cond (decide (n10.toNat ≤ x64.length)) (
     (getRow r9 n17 6).bind fun x68 =>
     (uncons x68).bind fun x69 =>
     (asInt .i64 (x69.1)).bind fun x70 =>
     (uncons x69.2).bind fun x71 =>
     (asInt .i64 (x71.1)).bind fun x72 =>
     (uncons x71.2).bind fun x73 =>
     (asRows (x73.1)).bind fun x74 =>
     (uncons x73.2).bind fun x75 =>
     (asRows (x75.1)).bind fun x76 =>
     (uncons x75.2).bind fun x77 =>
     (asRows (x77.1)).bind fun x78 =>
     (uncons x77.2).bind fun x79 =>
     (asRows (x79.1)).bind fun x80 =>
     (isNil x79.2).bind fun x81 =>
     cond (decide (0 ≤ n10)) (
      cond (decide (n10.toNat ≤ x78.length)) (
       (C.p (.func 27) [.slice .any ((x64.take n10.toNat).drop 0), .slice .any ((x78.take n10.toNat).drop 0)]).bind fun x82 =>
       (asCells (x82)).bind fun x83 =>
       (uncons x83).bind fun x84 =>
       (asInt .i64 (x84.1)).bind fun x85 =>
       (uncons x84.2).bind fun x86 =>
       (asInt .i64 (x86.1)).bind fun x87 =>
       (isNil x86.2).bind fun x88 =>
       cond x52 (
        (C.p (.func 26) [.agg [.int .i64 x85, .int .i64 x87]]).bind fun x89 =>
        (asBool (x89)).bind fun x90 =>
        cond (!x90) (
         cond (x87 == n13) (
          (getRow r8 n16 6).bind fun x91 =>
          (uncons x91).bind fun x92 =>
          (asInt .i64 (x92.1)).bind fun x93 =>
          (uncons x92.2).bind fun x94 =>
          (asInt .i64 (x94.1)).bind fun x95 =>
          (uncons x94.2).bind fun x96 =>
          (asRows (x96.1)).bind fun x97 =>
          (uncons x96.2).bind fun x98 =>
          (asRows (x98.1)).bind fun x99 =>
          (uncons x98.2).bind fun x100 =>
          (asRows (x100.1)).bind fun x101 =>
          (uncons x100.2).bind fun x102 =>
          (asRows (x102.1)).bind fun x103 =>
          (isNil x102.2).bind fun x104 =>
          (getRow r9 n17 6).bind fun x105 =>
          (uncons x105).bind fun x106 =>
          (asInt .i64 (x106.1)).bind fun x107 =>
          (uncons x106.2).bind fun x108 =>
          (asInt .i64 (x108.1)).bind fun x109 =>
          (uncons x108.2).bind fun x110 =>
          (asRows (x110.1)).bind fun x111 =>
          (uncons x110.2).bind fun x112 =>
          (asRows (x112.1)).bind fun x113 =>
          (uncons x112.2).bind fun x114 =>
          (asRows (x114.1)).bind fun x115 =>
          (uncons x114.2).bind fun x116 =>
          (asRows (x116.1)).bind fun x117 =>
          (isNil x116.2).bind fun x118 =>
          (C.p (.func 25) [.slice .any x101, .slice .any x115, .agg [.int .u32 n0, .int .u32 n1, .int .u32 n2, .int .u32 n3, .int .u32 n4, .int .u32 n5], .int .i64 n10]).bind fun x119 =>
          (asInt .i64 (x119)).bind fun x120 =>
          cond (decide (x120 ≥ (Go.IntKind.wrap .i64 (n11 * n11)))) (
           some (.ret, ⟨(sp 0 121 [(3, .box [.int .u32 n0, .int .u32 n1, .int .u32 n2, .int .u32 n3, .int .u32 n4, .int .u32 n5]), (4, .bool false), (5, .bool b7), (6, .slice .any r8), (7, .slice .any r9), (8, .box [.int .i64 n10, .int .i64 n11]), (9, .box [.int .i64 n12, .int .i64 n13]), (10, .bool b14), (11, .bool true), (12, .int .i64 n16), (13, .int .i64 n17)]), []⟩)) (
           some (.normal, ⟨(sp 0 121 [(3, .box [.int .u32 n0, .int .u32 n1, .int .u32 n2, .int .u32 n3, .int .u32 n4, .int .u32 n5]), (4, .bool b6), (5, .bool b7), (6, .slice .any r8), (7, .slice .any r9), (8, .box [.int .i64 n10, .int .i64 n11]), (9, .box [.int .i64 n12, .int .i64 n13]), (10, .bool b14), (11, .bool true), (12, .int .i64 n16), (13, .int .i64 (Go.IntKind.wrap .i64 (n17 + 1)))]), []⟩))) (
          some (.normal, ⟨(sp 0 121 [(3, .box [.int .u32 n0, .int .u32 n1, .int .u32 n2, .int .u32 n3, .int .u32 n4, .int .u32 n5]), (4, .bool b6), (5, .bool b7), (6, .slice .any r8), (7, .slice .any r9), (8, .box [.int .i64 n10, .int .i64 n11]), (9, .box [.int .i64 n12, .int .i64 n13]), (10, .bool b14), (11, .bool b15), (12, .int .i64 n16), (13, .int .i64 (Go.IntKind.wrap .i64 (n17 + 1)))]), []⟩))) (
         some (.normal, ⟨(sp 0 121 [(3, .box [.int .u32 n0, .int .u32 n1, .int .u32 n2, .int .u32 n3, .int .u32 n4, .int .u32 n5]), (4, .bool b6), (5, .bool b7), (6, .slice .any r8), (7, .slice .any r9), (8, .box [.int .i64 n10, .int .i64 n11]), (9, .box [.int .i64 n12, .int .i64 n13]), (10, .bool b14), (11, .bool b15), (12, .int .i64 n16), (13, .int .i64 (Go.IntKind.wrap .i64 (n17 + 1)))]), []⟩))) (
        some (.normal, ⟨(sp 0 121 [(3, .box [.int .u32 n0, .int .u32 n1, .int .u32 n2, .int .u32 n3, .int .u32 n4, .int .u32 n5]), (4, .bool b6), (5, .bool b7), (6, .slice .any r8), (7, .slice .any r9), (8, .box [.int .i64 n10, .int .i64 n11]), (9, .box [.int .i64 n12, .int .i64 n13]), (10, .bool b14), (11, .bool b15), (12, .int .i64 n16), (13, .int .i64 (Go.IntKind.wrap .i64 (n17 + 1)))]), []⟩))) (
       none)) (
      none)) (
     none)) (
    none)) (
   some ((.exit 2), ⟨(sp 0 121 [(3, .box [.int .u32 n0, .int .u32 n1, .int .u32 n2, .int .u32 n3, .int .u32 n4, .int .u32 n5]), (4, .bool b6), (5, .bool b7), (6, .slice .any r8), (7, .slice .any r9), (8, .box [.int .i64 n10, .int .i64 n11]), (9, .box [.int .i64 n12, .int .i64 n13]), (10, .bool b14), (11, .bool b15), (12, .int .i64 n16), (13, .int .i64 n17)]), []⟩)) := by kernel_rfl

theorem e5_8 (C : CallT) (n0 : Int) (n1 : Int) (n2 : Int) (n3 : Int) (n4 : Int) (n5 : Int) (b6 : Bool) (b7 : Bool) (r8 : List (List V)) (r9 : List (List V)) (n10 : Int) (n11 : Int) (n12 : Int) (n13 : Int) (b14 : Bool) (b15 : Bool) (n16 : Int) : roundK Go.Ab.G20 Go.Ab.L20 C 5 none 8 ⟨(sp 0 121 [(3, .box [.int .u32 n0, .int .u32 n1, .int .u32 n2, .int .u32 n3, .int .u32 n4, .int .u32 n5]), (4, .bool b6), (5, .bool b7), (6, .slice .any r8), (7, .slice .any r9), (8, .box [.int .i64 n10, .int .i64 n11]), (9, .box [.int .i64 n12, .int .i64 n13]), (10, .bool b14), (11, .bool b15), (12, .int .i64 n16)]), []⟩ =
  cond (decide (n16 < ((r8.length : Nat) : Int))) (
   (C.w (roundK Go.Ab.G20 Go.Ab.L20 C 5 none 11) ⟨(sp 0 121 [(3, .box [.int .u32 n0, .int .u32 n1, .int .u32 n2, .int .u32 n3, .int .u32 n4, .int .u32 n5]), (4, .bool b6), (5, .bool b7), (6, .slice .any r8), (7, .slice .any r9), (8, .box [.int .i64 n10, .int .i64 n11]), (9, .box [.int .i64 n12, .int .i64 n13]), (10, .bool b14), (11, .bool b15), (12, .int .i64 n16), (13, .int .i64 0)]), []⟩).bind fun x0 =>
   match x0.1 with
   | .normal =>
     none
   | .exit x2 =>
     cond (Nat.beq x2 2) (
      (asBox ((nth x0.2.t 3))).bind fun x3 =>
      (uncons x3).bind fun x4 =>
      (asInt .u32 (x4.1)).bind fun x5 =>
      (uncons x4.2).bind fun x6 =>
      (asInt .u32 (x6.1)).bind fun x7 =>
      (uncons x6.2).bind fun x8 =>
      (asInt .u32 (x8.1)).bind fun x9 =>
      (uncons x8.2).bind fun x10 =>
      (asInt .u32 (x10.1)).bind fun x11 =>
      (uncons x10.2).bind fun x12 =>
      (asInt .u32 (x12.1)).bind fun x13 =>
      (uncons x12.2).bind fun x14 =>
      (asInt .u32 (x14.1)).bind fun x15 =>
      (isNil x14.2).bind fun x16 =>
      (asBool ((nth x0.2.t 4))).bind fun x17 =>
      (asBool ((nth x0.2.t 5))).bind fun x18 =>
      (asRows ((nth x0.2.t 6))).bind fun x19 =>
      (asRows ((nth x0.2.t 7))).bind fun x20 =>
      (asBox ((nth x0.2.t 8))).bind fun x21 =>
      (uncons x21).bind fun x22 =>
      (asInt .i64 (x22.1)).bind fun x23 =>
      (uncons x22.2).bind fun x24 =>
      (asInt .i64 (x24.1)).bind fun x25 =>
      (isNil x24.2).bind fun x26 =>
      (asBox ((nth x0.2.t 9))).bind fun x27 =>
      (uncons x27).bind fun x28 =>
      (asInt .i64 (x28.1)).bind fun x29 =>
      (uncons x28.2).bind fun x30 =>
      (asInt .i64 (x30.1)).bind fun x31 =>
      (isNil x30.2).bind fun x32 =>
      (asBool ((nth x0.2.t 10))).bind fun x33 =>
      (asBool ((nth x0.2.t 11))).bind fun x34 =>
      (asInt .i64 ((nth x0.2.t 12))).bind fun x35 =>
      (asInt .i64 ((nth x0.2.t 13))).bind fun x36 =>
      some (.normal, ⟨(sp 0 121 [(3, .box [.int .u32 x5, .int .u32 x7, .int .u32 x9, .int .u32 x11, .int .u32 x13, .int .u32 x15]), (4, .bool x17), (5, .bool x18), (6, .slice .any x19), (7, .slice .any x20), (8, .box [.int .i64 x23, .int .i64 x25]), (9, .box [.int .i64 x29, .int .i64 x31]), (10, .bool x33), (11, .bool x34), (12, .int .i64 (Go.IntKind.wrap .i64 (x35 + 1)))]), []⟩)) (
      none)
   | .ret =>
     (asBox ((nth x0.2.t 3))).bind fun x37 =>
     (uncons x37).bind fun x38 =>
     (asInt .u32 (x38.1)).bind fun x39 =>
     (uncons x38.2).bind fun x40 =>
     (asInt .u32 (x40.1)).bind fun x41 =>
     (uncons x40.2).bind fun x42 =>
     (asInt .u32 (x42.1)).bind fun x43 =>
     (uncons x42.2).bind fun x44 =>
     (asInt .u32 (x44.1)).bind fun x45 =>
     (uncons x44.2).bind fun x46 =>
     (asInt .u32 (x46.1)).bind fun x47 =>
     (uncons x46.2).bind fun x48 =>
     (asInt .u32 (x48.1)).bind fun x49 =>
     (isNil x48.2).bind fun x50 =>
     (asBool ((nth x0.2.t 4))).bind fun x51 =>
     (asBool ((nth x0.2.t 5))).bind fun x52 =>
     (asRows ((nth x0.2.t 6))).bind fun x53 =>
     (asRows ((nth x0.2.t 7))).bind fun x54 =>
     (asBox ((nth x0.2.t 8))).bind fun x55 =>
     (uncons x55).bind fun x56 =>
     (asInt .i64 (x56.1)).bind fun x57 =>
     (uncons x56.2).bind fun x58 =>
     (asInt .i64 (x58.1)).bind fun x59 =>
     (isNil x58.2).bind fun x60 =>
     (asBox ((nth x0.2.t 9))).bind fun x61 =>
     (uncons x61).bind fun x62 =>
     (asInt .i64 (x62.1)).bind fun x63 =>
     (uncons x62.2).bind fun x64 =>
     (asInt .i64 (x64.1)).bind fun x65 =>
     (isNil x64.2).bind fun x66 =>
     (asBool ((nth x0.2.t 10))).bind fun x67 =>
     (asBool ((nth x0.2.t 11))).bind fun x68 =>
     (asInt .i64 ((nth x0.2.t 12))).bind fun x69 =>
     (asInt .i64 ((nth x0.2.t 13))).bind fun x70 =>
     some (.ret, ⟨(sp 0 121 [(3, .box [.int .u32 x39, .int .u32 x41, .int .u32 x43, .int .u32 x45, .int .u32 x47, .int .u32 x49]), (4, .bool x51), (5, .bool x52), (6, .slice .any x53), (7, .slice .any x54), (8, .box [.int .i64 x57, .int .i64 x59]), (9, .box [.int .i64 x63, .int .i64 x65]), (10, .bool x67), (11, .bool x68), (12, .int .i64 x69)]), []⟩)) (
   some ((.exit 0), ⟨(sp 0 121 [(3, .box [.int .u32 n0, .int .u32 n1, .int .u32 n2, .int .u32 n3, .int .u32 n4, .int .u32 n5]), (4, .bool b6), (5, .bool b7), (6, .slice .any r8), (7, .slice .any r9), (8, .box [.int .i64 n10, .int .i64 n11]), (9, .box [.int .i64 n12, .int .i64 n13]), (10, .bool b14), (11, .bool b15), (12, .int .i64 n16)]), []⟩)) := by kernel_rfl

theorem e5 (C : CallT) (r0 : List (List V)) (r1 : List (List V)) (n2 : Int) (n3 : Int) (n4 : Int) (n5 : Int) (n6 : Int) (n7 : Int) (n8 : Int) (n9 : Int) : run1 Go.Ab.G20 Go.Ab.L20 C (.func 5) [.agg [.slice .any r0, .slice .any r1, .int .u8 n2, .int .i64 n3], .agg [.int .u32 n4, .int .u32 n5, .int .u32 n6, .int .u32 n7, .int .u32 n8, .int .u32 n9]] [] =
  (C.p (.func 11) []).bind fun x0 =>
  (asBool (x0)).bind fun x1 =>
  (C.p (.func 12) [.agg [.slice .any r0, .slice .any r1, .int .u8 n2, .int .i64 n3]]).bind fun x2 =>
  (asTuple (x2)).bind fun x3 =>
  (uncons x3).bind fun x4 =>
  (asRows (x4.1)).bind fun x5 =>
  (uncons x4.2).bind fun x6 =>
  (asRows (x6.1)).bind fun x7 =>
  (uncons x6.2).bind fun x8 =>
  (asCells (x8.1)).bind fun x9 =>
  (uncons x9).bind fun x10 =>
  (asInt .i64 (x10.1)).bind fun x11 =>
  (uncons x10.2).bind fun x12 =>
  (asInt .i64 (x12.1)).bind fun x13 =>
  (isNil x12.2).bind fun x14 =>
  (isNil x8.2).bind fun x15 =>
  (C.p (.func 18) [.slice .any x5, .slice .any x7, .agg [.int .i64 x11, .int .i64 x13]]).bind fun x16 =>
  (asInt .i64 (x16)).bind fun x17 =>
  cond (x17 != (-1)) (
   some (.bool x1, [])) (
   (C.p (.func 15) [.slice .any x5, .slice .any x7, .int .i64 x11]).bind fun x18 =>
   (asTuple (x18)).bind fun x19 =>
   (uncons x19).bind fun x20 =>
   (asCells (x20.1)).bind fun x21 =>
   (uncons x21).bind fun x22 =>
   (asInt .i64 (x22.1)).bind fun x23 =>
   (uncons x22.2).bind fun x24 =>
   (asInt .i64 (x24.1)).bind fun x25 =>
   (isNil x24.2).bind fun x26 =>
   (uncons x20.2).bind fun x27 =>
   (asBool (x27.1)).bind fun x28 =>
   (isNil x27.2).bind fun x29 =>
   (C.w (roundK Go.Ab.G20 Go.Ab.L20 C 5 none 8) ⟨(sp 0 121 [(3, .box [.int .u32 n4, .int .u32 n5, .int .u32 n6, .int .u32 n7, .int .u32 n8, .int .u32 n9]), (4, .bool false), (5, .bool x1), (6, .slice .any x5), (7, .slice .any x7), (8, .box [.int .i64 x11, .int .i64 x13]), (9, .box [.int .i64 x23, .int .i64 x25]), (10, .bool x28), (11, .bool false), (12, .int .i64 0)]), []⟩).bind fun x30 =>
   match x30.1 with
   | .normal =>
     none
   | .exit x32 =>
     cond (Nat.beq x32 0) (
      (asBox ((nth x30.2.t 3))).bind fun x33 =>
      (uncons x33).bind fun x34 =>
      (asInt .u32 (x34.1)).bind fun x35 =>
      (uncons x34.2).bind fun x36 =>
      (asInt .u32 (x36.1)).bind fun x37 =>
      (uncons x36.2).bind fun x38 =>
      (asInt .u32 (x38.1)).bind fun x39 =>
      (uncons x38.2).bind fun x40 =>
      (asInt .u32 (x40.1)).bind fun x41 =>
      (uncons x40.2).bind fun x42 =>
      (asInt .u32 (x42.1)).bind fun x43 =>
      (uncons x42.2).bind fun x44 =>
      (asInt .u32 (x44.1)).bind fun x45 =>
      (isNil x44.2).bind fun x46 =>
      (asBool ((nth x30.2.t 4))).bind fun x47 =>
      (asBool ((nth x30.2.t 5))).bind fun x48 =>
      (asRows ((nth x30.2.t 6))).bind fun x49 =>
      (asRows ((nth x30.2.t 7))).bind fun x50 =>
      (asBox ((nth x30.2.t 8))).bind fun x51 =>
      (uncons x51).bind fun x52 =>
      (asInt .i64 (x52.1)).bind fun x53 =>
      (uncons x52.2).bind fun x54 =>
      (asInt .i64 (x54.1)).bind fun x55 =>
      (isNil x54.2).bind fun x56 =>
      (asBox ((nth x30.2.t 9))).bind fun x57 =>
      (uncons x57).bind fun x58 =>
      (asInt .i64 (x58.1)).bind fun x59 =>
      (uncons x58.2).bind fun x60 =>
      (asInt .i64 (x60.1)).bind fun x61 =>
      (isNil x60.2).bind fun x62 =>
      (asBool ((nth x30.2.t 10))).bind fun x63 =>
      (asBool ((nth x30.2.t 11))).bind fun x64 =>
      (asInt .i64 ((nth x30.2.t 12))).bind fun x65 =>
      cond x63 (
       cond x64 (
        some (.bool x48, [])) (
        some (.bool false, []))) (
       some (.bool false, []))) (
      none)
   | .ret =>
     (asBox ((nth x30.2.t 3))).bind fun x66 =>
     (uncons x66).bind fun x67 =>
     (asInt .u32 (x67.1)).bind fun x68 =>
     (uncons x67.2).bind fun x69 =>
     (asInt .u32 (x69.1)).bind fun x70 =>
     (uncons x69.2).bind fun x71 =>
     (asInt .u32 (x71.1)).bind fun x72 =>
     (uncons x71.2).bind fun x73 =>
     (asInt .u32 (x73.1)).bind fun x74 =>
     (uncons x73.2).bind fun x75 =>
     (asInt .u32 (x75.1)).bind fun x76 =>
     (uncons x75.2).bind fun x77 =>
     (asInt .u32 (x77.1)).bind fun x78 =>
     (isNil x77.2).bind fun x79 =>
     (asBool ((nth x30.2.t 4))).bind fun x80 =>
     (asBool ((nth x30.2.t 5))).bind fun x81 =>
     (asRows ((nth x30.2.t 6))).bind fun x82 =>
     (asRows ((nth x30.2.t 7))).bind fun x83 =>
     (asBox ((nth x30.2.t 8))).bind fun x84 =>
     (uncons x84).bind fun x85 =>
     (asInt .i64 (x85.1)).bind fun x86 =>
     (uncons x85.2).bind fun x87 =>
     (asInt .i64 (x87.1)).bind fun x88 =>
     (isNil x87.2).bind fun x89 =>
     (asBox ((nth x30.2.t 9))).bind fun x90 =>
     (uncons x90).bind fun x91 =>
     (asInt .i64 (x91.1)).bind fun x92 =>
     (uncons x91.2).bind fun x93 =>
     (asInt .i64 (x93.1)).bind fun x94 =>
     (isNil x93.2).bind fun x95 =>
     (asBool ((nth x30.2.t 10))).bind fun x96 =>
     (asBool ((nth x30.2.t 11))).bind fun x97 =>
     (asInt .i64 ((nth x30.2.t 12))).bind fun x98 =>
     some (.bool x80, [])) := by kernel_rfl


theorem e7_11 (C : CallT) (b0 : Bool) (b1 : Bool) (r2 : List (List V)) (r3 : List (List V)) (n4 : Int) (r5 : List (List V)) (r6 : List (List V)) (r7 : List (List V)) (r8 : List (List V)) (n9 : Int) : roundK Go.Ab.G20 Go.Ab.L20 C 7 none 11 ⟨(sp 0 172 [(6, .bool b0), (7, .bool b1), (8, .slice .any r2), (9, .slice .any r3), (11, .int .i64 n4), (13, .slice .any r5), (14, .slice .any r6), (19, .slice .any r7), (20, .slice .any r8), (21, .int .i64 n9)]), []⟩ =
  cond (decide (n9 < ((r7.length : Nat) : Int))) (
   (getRow r8 n9 2).bind fun x0 =>
   (uncons x0).bind fun x1 =>
   (asInt .i64 (x1.1)).bind fun x2 =>
   (uncons x1.2).bind fun x3 =>
   (asInt .i64 (x3.1)).bind fun x4 =>
   (isNil x3.2).bind fun x5 =>
   (getRow r7 n9 2).bind fun x6 =>
   (uncons x6).bind fun x7 =>
   (asInt .i64 (x7.1)).bind fun x8 =>
   (uncons x7.2).bind fun x9 =>
   (asInt .i64 (x9.1)).bind fun x10 =>
   (isNil x9.2).bind fun x11 =>
   cond (x2 != (Go.IntKind.wrap .i64 (x8 + n4))) (
    some (.ret, ⟨(sp 0 172 [(6, .bool false), (7, .bool b1), (8, .slice .any r2), (9, .slice .any r3), (11, .int .i64 n4), (13, .slice .any r5), (14, .slice .any r6), (19, .slice .any r7), (20, .slice .any r8), (21, .int .i64 n9)]), []⟩)) (
    (getRow r8 n9 2).bind fun x12 =>
    (uncons x12).bind fun x13 =>
    (asInt .i64 (x13.1)).bind fun x14 =>
    (uncons x13.2).bind fun x15 =>
    (asInt .i64 (x15.1)).bind fun x16 =>
    (isNil x15.2).bind fun x17 =>
    (getRow r7 n9 2).bind fun x18 =>
    (uncons x18).bind fun x19 =>
    (asInt .i64 (x19.1)).bind fun x20 =>
    (uncons x19.2).bind fun x21 =>
    (asInt .i64 (x21.1)).bind fun x22 =>
    (isNil x21.2).bind fun x23 =>
    cond (x16 != (Go.IntKind.wrap .i64 (x22 + n4))) (
     some (.ret, ⟨(sp 0 172 [(6, .bool false), (7, .bool b1), (8, .slice .any r2), (9, .slice .any r3), (11, .int .i64 n4), (13, .slice .any r5), (14, .slice .any r6), (19, .slice .any r7), (20, .slice .any r8), (21, .int .i64 n9)]), []⟩)) (
     some (.normal, ⟨(sp 0 172 [(6, .bool b0), (7, .bool b1), (8, .slice .any r2), (9, .slice .any r3), (11, .int .i64 n4), (13, .slice .any r5), (14, .slice .any r6), (19, .slice .any r7), (20, .slice .any r8), (21, .int .i64 (Go.IntKind.wrap .i64 (n9 + 1)))]), []⟩)))) (
   some ((.exit 0), ⟨(sp 0 172 [(6, .bool b0), (7, .bool b1), (8, .slice .any r2), (9, .slice .any r3), (11, .int .i64 n4), (13, .slice .any r5), (14, .slice .any r6), (19, .slice .any r7), (20, .slice .any r8), (21, .int .i64 n9)]), []⟩)) := by kernel_rfl

theorem e7 (C : CallT) (r0 : List (List V)) (r1 : List (List V)) (n2 : Int) (n3 : Int) (n4 : Int) (n5 : Int) : run1 Go.Ab.G20 Go.Ab.L20 C (.func 7) [.agg [.slice .any r0, .slice .any r1, .int .u8 n2, .int .i64 n3], .int .i32 n4, .int .i32 n5] [] =
  (C.p (.func 11) []).bind fun x0 =>
  (asBool (x0)).bind fun x1 =>
  (C.p (.func 12) [.agg [.slice .any r0, .slice .any r1, .int .u8 n2, .int .i64 n3]]).bind fun x2 =>
  (asTuple (x2)).bind fun x3 =>
  (uncons x3).bind fun x4 =>
  (asRows (x4.1)).bind fun x5 =>
  (uncons x4.2).bind fun x6 =>
  (asRows (x6.1)).bind fun x7 =>
  (uncons x6.2).bind fun x8 =>
  (asCells (x8.1)).bind fun x9 =>
  (uncons x9).bind fun x10 =>
  (asInt .i64 (x10.1)).bind fun x11 =>
  (uncons x10.2).bind fun x12 =>
  (asInt .i64 (x12.1)).bind fun x13 =>
  (isNil x12.2).bind fun x14 =>
  (isNil x8.2).bind fun x15 =>
  (C.p (.func 28) [.slice .any x5, .int .i64 (Int.tmod (Go.IntKind.wrap .i64 n4) 4194304), .int .i64 (Int.tmod (Go.IntKind.wrap .i64 n5) 4194304)]).bind fun x16 =>
  (asRows (x16)).bind fun x17 =>
  (C.p (.func 28) [.slice .any x7, .int .i64 (Int.tmod (Go.IntKind.wrap .i64 n4) 4194304), .int .i64 (Int.tmod (Go.IntKind.wrap .i64 n5) 4194304)]).bind fun x18 =>
  (asRows (x18)).bind fun x19 =>
  (C.p (.func 15) [.slice .any x5, .slice .any x7, .int .i64 x11]).bind fun x20 =>
  (asTuple (x20)).bind fun x21 =>
  (uncons x21).bind fun x22 =>
  (asCells (x22.1)).bind fun x23 =>
  (uncons x23).bind fun x24 =>
  (asInt .i64 (x24.1)).bind fun x25 =>
  (uncons x24.2).bind fun x26 =>
  (asInt .i64 (x26.1)).bind fun x27 =>
  (isNil x26.2).bind fun x28 =>
  (uncons x22.2).bind fun x29 =>
  (asBool (x29.1)).bind fun x30 =>
  (isNil x29.2).bind fun x31 =>
  (C.p (.func 15) [.slice .any x17, .slice .any x19, .int .i64 x11]).bind fun x32 =>
  (asTuple (x32)).bind fun x33 =>
  (uncons x33).bind fun x34 =>
  (asCells (x34.1)).bind fun x35 =>
  (uncons x35).bind fun x36 =>
  (asInt .i64 (x36.1)).bind fun x37 =>
  (uncons x36.2).bind fun x38 =>
  (asInt .i64 (x38.1)).bind fun x39 =>
  (isNil x38.2).bind fun x40 =>
  (uncons x34.2).bind fun x41 =>
  (asBool (x41.1)).bind fun x42 =>
  (isNil x41.2).bind fun x43 =>
  (C.p (.func 21) [.slice .any x5, .slice .any x7, .agg [.int .i64 x11, .int .i64 x13]]).bind fun x44 =>
  (asRows (x44)).bind fun x45 =>
  (C.p (.func 21) [.slice .any x17, .slice .any x19, .agg [.int .i64 x11, .int .i64 x13]]).bind fun x46 =>
  (asRows (x46)).bind fun x47 =>
  (C.p (.func 17) [.agg [.int .i64 x25, .int .i64 x27], .agg [.int .i64 x37, .int .i64 x39]]).bind fun x48 =>
  (asBool (x48)).bind fun x49 =>
  cond (!x49) (
   some (.bool false, [])) (
   cond (!(x30 == x42)) (
    some (.bool false, [])) (
    (C.p (.func 18) [.slice .any x5, .slice .any x7, .agg [.int .i64 x11, .int .i64 x13]]).bind fun x50 =>
    (asInt .i64 (x50)).bind fun x51 =>
    (C.p (.func 18) [.slice .any x17, .slice .any x19, .agg [.int .i64 x11, .int .i64 x13]]).bind fun x52 =>
    (asInt .i64 (x52)).bind fun x53 =>
    cond (x51 != x53) (
     some (.bool false, [])) (
     cond (((x45.length : Nat) : Int) != ((x47.length : Nat) : Int)) (
      some (.bool false, [])) (
      (C.w (roundK Go.Ab.G20 Go.Ab.L20 C 7 none 11) ⟨(sp 0 172 [(6, .bool false), (7, .bool x1), (8, .slice .any x5), (9, .slice .any x7), (11, .int .i64 (Int.tmod (Go.IntKind.wrap .i64 n4) 4194304)), (13, .slice .any x17), (14, .slice .any x19), (19, .slice .any x45), (20, .slice .any x47), (21, .int .i64 0)]), []⟩).bind fun x54 =>
      match x54.1 with
      | .normal =>
        none
      | .exit x56 =>
        cond (Nat.beq x56 0) (
         (asBool ((nth x54.2.t 6))).bind fun x57 =>
         (asBool ((nth x54.2.t 7))).bind fun x58 =>
         (asRows ((nth x54.2.t 8))).bind fun x59 =>
         (asRows ((nth x54.2.t 9))).bind fun x60 =>
         (asInt .i64 ((nth x54.2.t 11))).bind fun x61 =>
         (asRows ((nth x54.2.t 13))).bind fun x62 =>
         (asRows ((nth x54.2.t 14))).bind fun x63 =>
         (asRows ((nth x54.2.t 19))).bind fun x64 =>
         (asRows ((nth x54.2.t 20))).bind fun x65 =>
         (asInt .i64 ((nth x54.2.t 21))).bind fun x66 =>
         (C.p (.func 13) [.slice .any x59, .slice .any x60]).bind fun x67 =>
         (asTuple (x67)).bind fun x68 =>
         (uncons x68).bind fun x69 =>
         (asCells (x69.1)).bind fun x70 =>
         (uncons x70).bind fun x71 =>
         (asInt .i64 (x71.1)).bind fun x72 =>
         (uncons x71.2).bind fun x73 =>
         (asInt .i64 (x73.1)).bind fun x74 =>
         (isNil x73.2).bind fun x75 =>
         (uncons x69.2).bind fun x76 =>
         (asBool (x76.1)).bind fun x77 =>
         (isNil x76.2).bind fun x78 =>
         (C.p (.func 13) [.slice .any x62, .slice .any x63]).bind fun x79 =>
         (asTuple (x79)).bind fun x80 =>
         (uncons x80).bind fun x81 =>
         (asCells (x81.1)).bind fun x82 =>
         (uncons x82).bind fun x83 =>
         (asInt .i64 (x83.1)).bind fun x84 =>
         (uncons x83.2).bind fun x85 =>
         (asInt .i64 (x85.1)).bind fun x86 =>
         (isNil x85.2).bind fun x87 =>
         (uncons x81.2).bind fun x88 =>
         (asBool (x88.1)).bind fun x89 =>
         (isNil x88.2).bind fun x90 =>
         cond (x77 == x89) (
          cond (!x77) (
           some (.bool x58, [])) (
           cond (x84 == (Go.IntKind.wrap .i64 (x72 + x61))) (
            cond (x86 == (Go.IntKind.wrap .i64 (x74 + x61))) (
             some (.bool x58, [])) (
             some (.bool false, []))) (
            some (.bool false, [])))) (
          some (.bool false, []))) (
         none)
      | .ret =>
        (asBool ((nth x54.2.t 6))).bind fun x91 =>
        (asBool ((nth x54.2.t 7))).bind fun x92 =>
        (asRows ((nth x54.2.t 8))).bind fun x93 =>
        (asRows ((nth x54.2.t 9))).bind fun x94 =>
        (asInt .i64 ((nth x54.2.t 11))).bind fun x95 =>
        (asRows ((nth x54.2.t 13))).bind fun x96 =>
        (asRows ((nth x54.2.t 14))).bind fun x97 =>
        (asRows ((nth x54.2.t 19))).bind fun x98 =>
        (asRows ((nth x54.2.t 20))).bind fun x99 =>
        (asInt .i64 ((nth x54.2.t 21))).bind fun x100 =>
        some (.bool x91, []))))) := by kernel_rfl


theorem e10 (C : CallT) (r0 : List (List V)) (r1 : List (List V)) (n2 : Int) (n3 : Int) (n4 : Int) (n5 : Int) : run1 Go.Ab.G20 Go.Ab.L20 C (.func 10) [.agg [.slice .any r0, .slice .any r1, .int .u8 n2, .int .i64 n3], .int .u8 n4, .int .u32 n5] [] =
  (C.p (.func 11) []).bind fun x0 =>
  (asBool (x0)).bind fun x1 =>
  (C.p (.func 12) [.agg [.slice .any r0, .slice .any r1, .int .u8 n2, .int .i64 n3]]).bind fun x2 =>
  (asTuple (x2)).bind fun x3 =>
  (uncons x3).bind fun x4 =>
  (asRows (x4.1)).bind fun x5 =>
  (uncons x4.2).bind fun x6 =>
  (asRows (x6.1)).bind fun x7 =>
  (uncons x6.2).bind fun x8 =>
  (asCells (x8.1)).bind fun x9 =>
  (uncons x9).bind fun x10 =>
  (asInt .i64 (x10.1)).bind fun x11 =>
  (uncons x10.2).bind fun x12 =>
  (asInt .i64 (x12.1)).bind fun x13 =>
  (isNil x12.2).bind fun x14 =>
  (isNil x8.2).bind fun x15 =>
  cond (((x5.length : Nat) : Int) == 0) (
   none) (
   (getRow x5 (Int.tmod (Go.IntKind.wrap .i64 n4) ((x5.length : Nat) : Int)) 6).bind fun x16 =>
   (uncons x16).bind fun x17 =>
   (asInt .i64 (x17.1)).bind fun x18 =>
   (uncons x17.2).bind fun x19 =>
   (asInt .i64 (x19.1)).bind fun x20 =>
   (uncons x19.2).bind fun x21 =>
   (asRows (x21.1)).bind fun x22 =>
   (uncons x21.2).bind fun x23 =>
   (asRows (x23.1)).bind fun x24 =>
   (uncons x23.2).bind fun x25 =>
   (asRows (x25.1)).bind fun x26 =>
   (uncons x25.2).bind fun x27 =>
   (asRows (x27.1)).bind fun x28 =>
   (isNil x27.2).bind fun x29 =>
   cond (decide (x20 < 2)) (
    some (.bool x1, [])) (
    cond ((Go.IntKind.wrap .i64 (x20 - 1)) == 0) (
     none) (
     cond (decide (0 ≤ (Int.tmod (Go.IntKind.wrap .i64 n4) ((x5.length : Nat) : Int)))) (
      cond (decide ((Int.tmod (Go.IntKind.wrap .i64 n4) ((x5.length : Nat) : Int)).toNat ≤ x5.length)) (
       cond (headIs 6 ((x5.take (Int.tmod (Go.IntKind.wrap .i64 n4) ((x5.length : Nat) : Int)).toNat).drop 0)) (
        cond (decide ((((x5.take (Int.tmod (Go.IntKind.wrap .i64 n4) ((x5.length : Nat) : Int)).toNat).drop 0).length * 112) ≤ room)) (
         cond (decide (((x5.take (Int.tmod (Go.IntKind.wrap .i64 n4) ((x5.length : Nat) : Int)).toNat).drop 0).length = ((x5.take (Int.tmod (Go.IntKind.wrap .i64 n4) ((x5.length : Nat) : Int)).toNat).drop 0).length)) (
          cond (decide (((((x5.take (Int.tmod (Go.IntKind.wrap .i64 n4) ((x5.length : Nat) : Int)).toNat).drop 0).length + 2) * 112) ≤ room)) (
           cond (decide (0 ≤ (Go.IntKind.wrap .i64 ((Int.tmod (Go.IntKind.wrap .i64 n4) ((x5.length : Nat) : Int)) + 1)))) (
            cond (decide ((Go.IntKind.wrap .i64 ((Int.tmod (Go.IntKind.wrap .i64 n4) ((x5.length : Nat) : Int)) + 1)).toNat ≤ x5.length)) (
             cond (headIs 6 x5) (
              cond (headIs 6 ((x5.take x5.length).drop (Go.IntKind.wrap .i64 ((Int.tmod (Go.IntKind.wrap .i64 n4) ((x5.length : Nat) : Int)) + 1)).toNat)) (
               cond (decide ((((x5.take (Int.tmod (Go.IntKind.wrap .i64 n4) ((x5.length : Nat) : Int)).toNat).drop 0).length + 2) = (List.append ((x5.take (Int.tmod (Go.IntKind.wrap .i64 n4) ((x5.length : Nat) : Int)).toNat).drop 0) [[.int .i64 x18, .int .i64 (Go.IntKind.wrap .i64 (1 + (Int.tmod (Go.IntKind.wrap .i64 n5) (Go.IntKind.wrap .i64 (x20 - 1))))), .slice .any x22, .slice .any x24, .slice .any x26, .slice .any x28], [.int .i64 (Go.IntKind.wrap .i64 (x18 + (Go.IntKind.wrap .i64 (1 + (Int.tmod (Go.IntKind.wrap .i64 n5) (Go.IntKind.wrap .i64 (x20 - 1))))))), .int .i64 (Go.IntKind.wrap .i64 (x20 - (Go.IntKind.wrap .i64 (1 + (Int.tmod (Go.IntKind.wrap .i64 n5) (Go.IntKind.wrap .i64 (x20 - 1))))))), .slice .any x22, .slice .any x24, .slice .any x26, .slice .any x28]]).length)) (
                cond (decide ((((List.append ((x5.take (Int.tmod (Go.IntKind.wrap .i64 n4) ((x5.length : Nat) : Int)).toNat).drop 0) [[.int .i64 x18, .int .i64 (Go.IntKind.wrap .i64 (1 + (Int.tmod (Go.IntKind.wrap .i64 n5) (Go.IntKind.wrap .i64 (x20 - 1))))), .slice .any x22, .slice .any x24, .slice .any x26, .slice .any x28], [.int .i64 (Go.IntKind.wrap .i64 (x18 + (Go.IntKind.wrap .i64 (1 + (Int.tmod (Go.IntKind.wrap .i64 n5) (Go.IntKind.wrap .i64 (x20 - 1))))))), .int .i64 (Go.IntKind.wrap .i64 (x20 - (Go.IntKind.wrap .i64 (1 + (Int.tmod (Go.IntKind.wrap .i64 n5) (Go.IntKind.wrap .i64 (x20 - 1))))))), .slice .any x22, .slice .any x24, .slice .any x26, .slice .any x28]]).length + ((x5.take x5.length).drop (Go.IntKind.wrap .i64 ((Int.tmod (Go.IntKind.wrap .i64 n4) ((x5.length : Nat) : Int)) + 1)).toNat).length) * 112) ≤ room)) (
                 (C.p (.func 15) [.slice .any x5, .slice .any x7, .int .i64 x11]).bind fun x30 =>
                 (asTuple (x30)).bind fun x31 =>
                 (uncons x31).bind fun x32 =>
                 (asCells (x32.1)).bind fun x33 =>
                 (uncons x33).bind fun x34 =>
                 (asInt .i64 (x34.1)).bind fun x35 =>
                 (uncons x34.2).bind fun x36 =>
                 (asInt .i64 (x36.1)).bind fun x37 =>
                 (isNil x36.2).bind fun x38 =>
                 (uncons x32.2).bind fun x39 =>
                 (asBool (x39.1)).bind fun x40 =>
                 (isNil x39.2).bind fun x41 =>
                 (arrRows [.arr true 6 (List.append (List.append ((x5.take (Int.tmod (Go.IntKind.wrap .i64 n4) ((x5.length : Nat) : Int)).toNat).drop 0) [[.int .i64 x18, .int .i64 (Go.IntKind.wrap .i64 (1 + (Int.tmod (Go.IntKind.wrap .i64 n5) (Go.IntKind.wrap .i64 (x20 - 1))))), .slice .any x22, .slice .any x24, .slice .any x26, .slice .any x28], [.int .i64 (Go.IntKind.wrap .i64 (x18 + (Go.IntKind.wrap .i64 (1 + (Int.tmod (Go.IntKind.wrap .i64 n5) (Go.IntKind.wrap .i64 (x20 - 1))))))), .int .i64 (Go.IntKind.wrap .i64 (x20 - (Go.IntKind.wrap .i64 (1 + (Int.tmod (Go.IntKind.wrap .i64 n5) (Go.IntKind.wrap .i64 (x20 - 1))))))), .slice .any x22, .slice .any x24, .slice .any x26, .slice .any x28]]) ((x5.take x5.length).drop (Go.IntKind.wrap .i64 ((Int.tmod (Go.IntKind.wrap .i64 n4) ((x5.length : Nat) : Int)) + 1)).toNat))] 0 ((((x5.take (Int.tmod (Go.IntKind.wrap .i64 n4) ((x5.length : Nat) : Int)).toNat).drop 0).length + 2) + ((x5.take x5.length).drop (Go.IntKind.wrap .i64 ((Int.tmod (Go.IntKind.wrap .i64 n4) ((x5.length : Nat) : Int)) + 1)).toNat).length)).bind fun x42 =>
                 (C.p (.func 15) [.slice .any x42, .slice .any x7, .int .i64 x11]).bind fun x43 =>
                 (asTuple (x43)).bind fun x44 =>
                 (uncons x44).bind fun x45 =>
                 (asCells (x45.1)).bind fun x46 =>
                 (uncons x46).bind fun x47 =>
                 (asInt .i64 (x47.1)).bind fun x48 =>
                 (uncons x47.2).bind fun x49 =>
                 (asInt .i64 (x49.1)).bind fun x50 =>
                 (isNil x49.2).bind fun x51 =>
                 (uncons x45.2).bind fun x52 =>
                 (asBool (x52.1)).bind fun x53 =>
                 (isNil x52.2).bind fun x54 =>
                 (C.p (.func 17) [.agg [.int .i64 x35, .int .i64 x37], .agg [.int .i64 x48, .int .i64 x50]]).bind fun x55 =>
                 (asBool (x55)).bind fun x56 =>
                 cond x56 (
                  cond (x40 == x53) (
                   (C.p (.func 18) [.slice .any x5, .slice .any x7, .agg [.int .i64 x11, .int .i64 x13]]).bind fun x57 =>
                   (asInt .i64 (x57)).bind fun x58 =>
                   (arrRows [.arr false 6 (List.append (List.append ((x5.take (Int.tmod (Go.IntKind.wrap .i64 n4) ((x5.length : Nat) : Int)).toNat).drop 0) [[.int .i64 x18, .int .i64 (Go.IntKind.wrap .i64 (1 + (Int.tmod (Go.IntKind.wrap .i64 n5) (Go.IntKind.wrap .i64 (x20 - 1))))), .slice .any x22, .slice .any x24, .slice .any x26, .slice .any x28], [.int .i64 (Go.IntKind.wrap .i64 (x18 + (Go.IntKind.wrap .i64 (1 + (Int.tmod (Go.IntKind.wrap .i64 n5) (Go.IntKind.wrap .i64 (x20 - 1))))))), .int .i64 (Go.IntKind.wrap .i64 (x20 - (Go.IntKind.wrap .i64 (1 + (Int.tmod (Go.IntKind.wrap .i64 n5) (Go.IntKind.wrap .i64 (x20 - 1))))))), .slice .any x22, .slice .any x24, .slice .any x26, .slice .any x28]]) ((x5.take x5.length).drop (Go.IntKind.wrap .i64 ((Int.tmod (Go.IntKind.wrap .i64 n4) ((x5.length : Nat) : Int)) + 1)).toNat))] 0 ((((x5.take (Int.tmod (Go.IntKind.wrap .i64 n4) ((x5.length : Nat) : Int)).toNat).drop 0).length + 2) + ((x5.take x5.length).drop (Go.IntKind.wrap .i64 ((Int.tmod (Go.IntKind.wrap .i64 n4) ((x5.length : Nat) : Int)) + 1)).toNat).length)).bind fun x59 =>
                   (C.p (.func 18) [.slice .any x59, .slice .any x7, .agg [.int .i64 x11, .int .i64 x13]]).bind fun x60 =>
                   (asInt .i64 (x60)).bind fun x61 =>
                   cond (x58 == x61) (
                    (C.p (.func 21) [.slice .any x5, .slice .any x7, .agg [.int .i64 x11, .int .i64 x13]]).bind fun x62 =>
                    (asRows (x62)).bind fun x63 =>
                    (arrRows [.arr false 6 (List.append (List.append ((x5.take (Int.tmod (Go.IntKind.wrap .i64 n4) ((x5.length : Nat) : Int)).toNat).drop 0) [[.int .i64 x18, .int .i64 (Go.IntKind.wrap .i64 (1 + (Int.tmod (Go.IntKind.wrap .i64 n5) (Go.IntKind.wrap .i64 (x20 - 1))))), .slice .any x22, .slice .any x24, .slice .any x26, .slice .any x28], [.int .i64 (Go.IntKind.wrap .i64 (x18 + (Go.IntKind.wrap .i64 (1 + (Int.tmod (Go.IntKind.wrap .i64 n5) (Go.IntKind.wrap .i64 (x20 - 1))))))), .int .i64 (Go.IntKind.wrap .i64 (x20 - (Go.IntKind.wrap .i64 (1 + (Int.tmod (Go.IntKind.wrap .i64 n5) (Go.IntKind.wrap .i64 (x20 - 1))))))), .slice .any x22, .slice .any x24, .slice .any x26, .slice .any x28]]) ((x5.take x5.length).drop (Go.IntKind.wrap .i64 ((Int.tmod (Go.IntKind.wrap .i64 n4) ((x5.length : Nat) : Int)) + 1)).toNat))] 0 ((((x5.take (Int.tmod (Go.IntKind.wrap .i64 n4) ((x5.length : Nat) : Int)).toNat).drop 0).length + 2) + ((x5.take x5.length).drop (Go.IntKind.wrap .i64 ((Int.tmod (Go.IntKind.wrap .i64 n4) ((x5.length : Nat) : Int)) + 1)).toNat).length)).bind fun x64 =>
                    (C.p (.func 21) [.slice .any x64, .slice .any x7, .agg [.int .i64 x11, .int .i64 x13]]).bind fun x65 =>
                    (asRows (x65)).bind fun x66 =>
                    (C.p (.func 20) [.slice .any x63, .slice .any x66]).bind fun x67 =>
                    (asBool (x67)).bind fun x68 =>
                    cond x68 (
                     some (.bool x1, [.arr false 6 (List.append (List.append ((x5.take (Int.tmod (Go.IntKind.wrap .i64 n4) ((x5.length : Nat) : Int)).toNat).drop 0) [[.int .i64 x18, .int .i64 (Go.IntKind.wrap .i64 (1 + (Int.tmod (Go.IntKind.wrap .i64 n5) (Go.IntKind.wrap .i64 (x20 - 1))))), .slice .any x22, .slice .any x24, .slice .any x26, .slice .any x28], [.int .i64 (Go.IntKind.wrap .i64 (x18 + (Go.IntKind.wrap .i64 (1 + (Int.tmod (Go.IntKind.wrap .i64 n5) (Go.IntKind.wrap .i64 (x20 - 1))))))), .int .i64 (Go.IntKind.wrap .i64 (x20 - (Go.IntKind.wrap .i64 (1 + (Int.tmod (Go.IntKind.wrap .i64 n5) (Go.IntKind.wrap .i64 (x20 - 1))))))), .slice .any x22, .slice .any x24, .slice .any x26, .slice .any x28]]) ((x5.take x5.length).drop (Go.IntKind.wrap .i64 ((Int.tmod (Go.IntKind.wrap .i64 n4) ((x5.length : Nat) : Int)) + 1)).toNat))])) (
                     some (.bool false, [.arr false 6 (List.append (List.append ((x5.take (Int.tmod (Go.IntKind.wrap .i64 n4) ((x5.length : Nat) : Int)).toNat).drop 0) [[.int .i64 x18, .int .i64 (Go.IntKind.wrap .i64 (1 + (Int.tmod (Go.IntKind.wrap .i64 n5) (Go.IntKind.wrap .i64 (x20 - 1))))), .slice .any x22, .slice .any x24, .slice .any x26, .slice .any x28], [.int .i64 (Go.IntKind.wrap .i64 (x18 + (Go.IntKind.wrap .i64 (1 + (Int.tmod (Go.IntKind.wrap .i64 n5) (Go.IntKind.wrap .i64 (x20 - 1))))))), .int .i64 (Go.IntKind.wrap .i64 (x20 - (Go.IntKind.wrap .i64 (1 + (Int.tmod (Go.IntKind.wrap .i64 n5) (Go.IntKind.wrap .i64 (x20 - 1))))))), .slice .any x22, .slice .any x24, .slice .any x26, .slice .any x28]]) ((x5.take x5.length).drop (Go.IntKind.wrap .i64 ((Int.tmod (Go.IntKind.wrap .i64 n4) ((x5.length : Nat) : Int)) + 1)).toNat))]))) (
                    some (.bool false, [.arr false 6 (List.append (List.append ((x5.take (Int.tmod (Go.IntKind.wrap .i64 n4) ((x5.length : Nat) : Int)).toNat).drop 0) [[.int .i64 x18, .int .i64 (Go.IntKind.wrap .i64 (1 + (Int.tmod (Go.IntKind.wrap .i64 n5) (Go.IntKind.wrap .i64 (x20 - 1))))), .slice .any x22, .slice .any x24, .slice .any x26, .slice .any x28], [.int .i64 (Go.IntKind.wrap .i64 (x18 + (Go.IntKind.wrap .i64 (1 + (Int.tmod (Go.IntKind.wrap .i64 n5) (Go.IntKind.wrap .i64 (x20 - 1))))))), .int .i64 (Go.IntKind.wrap .i64 (x20 - (Go.IntKind.wrap .i64 (1 + (Int.tmod (Go.IntKind.wrap .i64 n5) (Go.IntKind.wrap .i64 (x20 - 1))))))), .slice .any x22, .slice .any x24, .slice .any x26, .slice .any x28]]) ((x5.take x5.length).drop (Go.IntKind.wrap .i64 ((Int.tmod (Go.IntKind.wrap .i64 n4) ((x5.length : Nat) : Int)) + 1)).toNat))]))) (
                   some (.bool false, [.arr false 6 (List.append (List.append ((x5.take (Int.tmod (Go.IntKind.wrap .i64 n4) ((x5.length : Nat) : Int)).toNat).drop 0) [[.int .i64 x18, .int .i64 (Go.IntKind.wrap .i64 (1 + (Int.tmod (Go.IntKind.wrap .i64 n5) (Go.IntKind.wrap .i64 (x20 - 1))))), .slice .any x22, .slice .any x24, .slice .any x26, .slice .any x28], [.int .i64 (Go.IntKind.wrap .i64 (x18 + (Go.IntKind.wrap .i64 (1 + (Int.tmod (Go.IntKind.wrap .i64 n5) (Go.IntKind.wrap .i64 (x20 - 1))))))), .int .i64 (Go.IntKind.wrap .i64 (x20 - (Go.IntKind.wrap .i64 (1 + (Int.tmod (Go.IntKind.wrap .i64 n5) (Go.IntKind.wrap .i64 (x20 - 1))))))), .slice .any x22, .slice .any x24, .slice .any x26, .slice .any x28]]) ((x5.take x5.length).drop (Go.IntKind.wrap .i64 ((Int.tmod (Go.IntKind.wrap .i64 n4) ((x5.length : Nat) : Int)) + 1)).toNat))]))) (
                  some (.bool false, [.arr false 6 (List.append (List.append ((x5.take (Int.tmod (Go.IntKind.wrap .i64 n4) ((x5.length : Nat) : Int)).toNat).drop 0) [[.int .i64 x18, .int .i64 (Go.IntKind.wrap .i64 (1 + (Int.tmod (Go.IntKind.wrap .i64 n5) (Go.IntKind.wrap .i64 (x20 - 1))))), .slice .any x22, .slice .any x24, .slice .any x26, .slice .any x28], [.int .i64 (Go.IntKind.wrap .i64 (x18 + (Go.IntKind.wrap .i64 (1 + (Int.tmod (Go.IntKind.wrap .i64 n5) (Go.IntKind.wrap .i64 (x20 - 1))))))), .int .i64 (Go.IntKind.wrap .i64 (x20 - (Go.IntKind.wrap .i64 (1 + (Int.tmod (Go.IntKind.wrap .i64 n5) (Go.IntKind.wrap .i64 (x20 - 1))))))), .slice .any x22, .slice .any x24, .slice .any x26, .slice .any x28]]) ((x5.take x5.length).drop (Go.IntKind.wrap .i64 ((Int.tmod (Go.IntKind.wrap .i64 n4) ((x5.length : Nat) : Int)) + 1)).toNat))]))) (
                 none)) (
                none)) (
               none)) (
              none)) (
             none)) (
            none)) (
           none)) (
          none)) (
         none)) (
        none)) (
       none)) (
      none)))) := by kernel_rfl


theorem e28_3 (C : CallT) (r0 : List (List V)) (r1 : List (List V)) (n2 : Int) (n3 : Int) (n4 : Int) : roundK Go.Ab.G20 Go.Ab.L20 C 28 none 3 ⟨(sp 0 48 [(0, .slice .any r1), (1, .int .i64 n2), (2, .int .i64 n3), (7, .arr 0 r0.length 6), (8, .int .i64 n4)]), [.arr true 6 r0]⟩ =
  cond (decide (n4 < ((r1.length : Nat) : Int))) (
   (getRow r1 n4 6).bind fun x0 =>
   (uncons x0).bind fun x1 =>
   (asInt .i64 (x1.1)).bind fun x2 =>
   (uncons x1.2).bind fun x3 =>
   (asInt .i64 (x3.1)).bind fun x4 =>
   (uncons x3.2).bind fun x5 =>
   (asRows (x5.1)).bind fun x6 =>
   (uncons x5.2).bind fun x7 =>
   (asRows (x7.1)).bind fun x8 =>
   (uncons x7.2).bind fun x9 =>
   (asRows (x9.1)).bind fun x10 =>
   (uncons x9.2).bind fun x11 =>
   (asRows (x11.1)).bind fun x12 =>
   (isNil x11.2).bind fun x13 =>
   (C.p (.func 59) [.slice .any x6, .int .i64 n3]).bind fun x14 =>
   (asRows (x14)).bind fun x15 =>
   (C.p (.func 59) [.slice .any x8, .int .i64 n3]).bind fun x16 =>
   (asRows (x16)).bind fun x17 =>
   (C.p (.func 59) [.slice .any x10, .int .i64 n3]).bind fun x18 =>
   (asRows (x18)).bind fun x19 =>
   (C.p (.func 59) [.slice .any x12, .int .i64 n3]).bind fun x20 =>
   (asRows (x20)).bind fun x21 =>
   cond (decide (r0.length = r0.length)) (
    cond (decide (((r0.length + 1) * 112) ≤ room)) (
     some (.normal, ⟨(sp 0 48 [(0, .slice .any r1), (1, .int .i64 n2), (2, .int .i64 n3), (7, .arr 0 (r0.length + 1) 6), (8, .int .i64 (Go.IntKind.wrap .i64 (n4 + 1)))]), [.arr true 6 (List.append r0 [[.int .i64 (Go.IntKind.wrap .i64 (x2 + n2)), .int .i64 x4, .slice .any x15, .slice .any x17, .slice .any x19, .slice .any x21]])]⟩)) (
     none)) (
    none)) (
   some ((.exit 0), ⟨(sp 0 48 [(0, .slice .any r1), (1, .int .i64 n2), (2, .int .i64 n3), (7, .arr 0 r0.length 6), (8, .int .i64 n4)]), [.arr true 6 r0]⟩)) := by kernel_rfl

theorem e28 (C : CallT) (r0 : List (List V)) (n1 : Int) (n2 : Int) : run1 Go.Ab.G20 Go.Ab.L20 C (.func 28) [.slice .any r0, .int .i64 n1, .int .i64 n2] [] =
  (C.w (roundK Go.Ab.G20 Go.Ab.L20 C 28 none 3) ⟨(sp 0 48 [(0, .slice .any r0), (1, .int .i64 n1), (2, .int .i64 n2), (7, .arr 0 0 6), (8, .int .i64 0)]), [.arr true 6 []]⟩).bind fun x0 =>
  match x0.1 with
  | .normal =>
    none
  | .exit x2 =>
    cond (Nat.beq x2 0) (
     (asRows ((nth x0.2.t 0))).bind fun x3 =>
     (asInt .i64 ((nth x0.2.t 1))).bind fun x4 =>
     (asInt .i64 ((nth x0.2.t 2))).bind fun x5 =>
     (asArr 0 6 ((nth x0.2.t 7))).bind fun x6 =>
     (asInt .i64 ((nth x0.2.t 8))).bind fun x7 =>
     (unconsO x0.2.h).bind fun x8 =>
     (asObArr true 6 x8.1).bind fun x9 =>
     (arrRows [.arr true 6 x9] 0 x6).bind fun x10 =>
     some (.slice .any x10, [.arr false 6 x9])) (
     none)
  | .ret =>
    none := by kernel_rfl


theorem e29_3 (C : CallT) (r0 : List (List V)) (r1 : List (List V)) (n2 : Int) (n3 : Int) : roundK Go.Ab.G20 Go.Ab.L20 C 29 none 3 ⟨(sp 0 29 [(0, .slice .any r1), (1, .int .i64 n2), (5, .arr 0 r0.length 6), (6, .int .i64 n3)]), [.arr true 6 r0]⟩ =
  cond (decide (n3 < ((r1.length : Nat) : Int))) (
   (getRow r1 n3 6).bind fun x0 =>
   (uncons x0).bind fun x1 =>
   (asInt .i64 (x1.1)).bind fun x2 =>
   (uncons x1.2).bind fun x3 =>
   (asInt .i64 (x3.1)).bind fun x4 =>
   (uncons x3.2).bind fun x5 =>
   (asRows (x5.1)).bind fun x6 =>
   (uncons x5.2).bind fun x7 =>
   (asRows (x7.1)).bind fun x8 =>
   (uncons x7.2).bind fun x9 =>
   (asRows (x9.1)).bind fun x10 =>
   (uncons x9.2).bind fun x11 =>
   (asRows (x11.1)).bind fun x12 =>
   (isNil x11.2).bind fun x13 =>
   (C.p (.func 60) [.slice .any x10, .int .i64 n2]).bind fun x14 =>
   (asRows (x14)).bind fun x15 =>
   cond (decide (r0.length = r0.length)) (
    cond (decide (((r0.length + 1) * 112) ≤ room)) (
     some (.normal, ⟨(sp 0 29 [(0, .slice .any r1), (1, .int .i64 n2), (5, .arr 0 (r0.length + 1) 6), (6, .int .i64 (Go.IntKind.wrap .i64 (n3 + 1)))]), [.arr true 6 (List.append r0 [[.int .i64 x2, .int .i64 x4, .slice .any x6, .slice .any x8, .slice .any x15, .slice .any x12]])]⟩)) (
     none)) (
    none)) (
   some ((.exit 0), ⟨(sp 0 29 [(0, .slice .any r1), (1, .int .i64 n2), (5, .arr 0 r0.length 6), (6, .int .i64 n3)]), [.arr true 6 r0]⟩)) := by kernel_rfl

theorem e29 (C : CallT) (r0 : List (List V)) (n1 : Int) : run1 Go.Ab.G20 Go.Ab.L20 C (.func 29) [.slice .any r0, .int .i64 n1] [] =
  (C.w (roundK Go.Ab.G20 Go.Ab.L20 C 29 none 3) ⟨(sp 0 29 [(0, .slice .any r0), (1, .int .i64 n1), (5, .arr 0 0 6), (6, .int .i64 0)]), [.arr true 6 []]⟩).bind fun x0 =>
  match x0.1 with
  | .normal =>
    none
  | .exit x2 =>
    cond (Nat.beq x2 0) (
     (asRows ((nth x0.2.t 0))).bind fun x3 =>
     (asInt .i64 ((nth x0.2.t 1))).bind fun x4 =>
     (asArr 0 6 ((nth x0.2.t 5))).bind fun x5 =>
     (asInt .i64 ((nth x0.2.t 6))).bind fun x6 =>
     (unconsO x0.2.h).bind fun x7 =>
     (asObArr true 6 x7.1).bind fun x8 =>
     (arrRows [.arr true 6 x8] 0 x5).bind fun x9 =>
     some (.slice .any x9, [.arr false 6 x8])) (
     none)
  | .ret =>
    none := by kernel_rfl


theorem e30 (C : CallT) (n0 : Int) (n1 : Int) (n2 : Int) (n3 : Int) : run1 Go.Ab.G20 Go.Ab.L20 C (.func 30) [.agg [.int .i64 n0, .int .i64 n1], .agg [.int .i64 n2, .int .i64 n3]] [] =
  cond (decide (n2 ≤ n0)) (
   some (.bool (decide (n1 ≤ n3)), [])) (
   some (.bool false, [])) := by kernel_rfl


theorem e31_6 (C : CallT) (r0 : List (List V)) (r1 : List (List V)) (b2 : Bool) (n3 : Int) (b4 : Bool) (n5 : Int) : roundK Go.Ab.G20 Go.Ab.L20 C 31 none 6 ⟨(sp 0 34 [(0, .slice .any r0), (1, .slice .any r1), (4, .bool b2), (5, .int .i64 n3), (6, .bool b4), (7, .int .i64 n5)]), []⟩ =
  cond (decide (n5 < ((r1.length : Nat) : Int))) (
   cond b4 (
    some (.normal, ⟨(sp 0 34 [(0, .slice .any r0), (1, .slice .any r1), (4, .bool b2), (5, .int .i64 n3), (6, .bool true), (7, .int .i64 (Go.IntKind.wrap .i64 (n5 + 1)))]), []⟩)) (
    (getRow r0 n3 2).bind fun x0 =>
    (uncons x0).bind fun x1 =>
    (asInt .i64 (x1.1)).bind fun x2 =>
    (uncons x1.2).bind fun x3 =>
    (asInt .i64 (x3.1)).bind fun x4 =>
    (isNil x3.2).bind fun x5 =>
    (getRow r1 n5 2).bind fun x6 =>
    (uncons x6).bind fun x7 =>
    (asInt .i64 (x7.1)).bind fun x8 =>
    (uncons x7.2).bind fun x9 =>
    (asInt .i64 (x9.1)).bind fun x10 =>
    (isNil x9.2).bind fun x11 =>
    (C.p (.func 30) [.agg [.int .i64 x2, .int .i64 x4], .agg [.int .i64 x8, .int .i64 x10]]).bind fun x12 =>
    (asBool (x12)).bind fun x13 =>
    some (.normal, ⟨(sp 0 34 [(0, .slice .any r0), (1, .slice .any r1), (4, .bool b2), (5, .int .i64 n3), (6, .bool x13), (7, .int .i64 (Go.IntKind.wrap .i64 (n5 + 1)))]), []⟩))) (
   some ((.exit 2), ⟨(sp 0 34 [(0, .slice .any r0), (1, .slice .any r1), (4, .bool b2), (5, .int .i64 n3), (6, .bool b4), (7, .int .i64 n5)]), []⟩)) := by kernel_rfl

theorem e31_2 (C : CallT) (r0 : List (List V)) (r1 : List (List V)) (b2 : Bool) (n3 : Int) : roundK Go.Ab.G20 Go.Ab.L20 C 31 none 2 ⟨(sp 0 34 [(0, .slice .any r0), (1, .slice .any r1), (4, .bool b2), (5, .int .i64 n3)]), []⟩ =
  cond (decide (n3 < ((r0.length : Nat) : Int))) (
   (C.w (roundK Go.Ab.G20 Go.Ab.L20 C 31 none 6) ⟨(sp 0 34 [(0, .slice .any r0), (1, .slice .any r1), (4, .bool b2), (5, .int .i64 n3), (6, .bool false), (7, .int .i64 0)]), []⟩).bind fun x0 =>
   match x0.1 with
   | .normal =>
     none
   | .exit x2 =>
     cond (Nat.beq x2 2) (
      (asRows ((nth x0.2.t 0))).bind fun x3 =>
      (asRows ((nth x0.2.t 1))).bind fun x4 =>
      (asBool ((nth x0.2.t 4))).bind fun x5 =>
      (asInt .i64 ((nth x0.2.t 5))).bind fun x6 =>
      (asBool ((nth x0.2.t 6))).bind fun x7 =>
      (asInt .i64 ((nth x0.2.t 7))).bind fun x8 =>
      cond (!x7) (
       some (.ret, ⟨(sp 0 34 [(0, .slice .any x3), (1, .slice .any x4), (4, .bool false), (5, .int .i64 x6)]), []⟩)) (
       some (.normal, ⟨(sp 0 34 [(0, .slice .any x3), (1, .slice .any x4), (4, .bool x5), (5, .int .i64 (Go.IntKind.wrap .i64 (x6 + 1)))]), []⟩))) (
      none)
   | .ret =>
     none) (
   some ((.exit 0), ⟨(sp 0 34 [(0, .slice .any r0), (1, .slice .any r1), (4, .bool b2), (5, .int .i64 n3)]), []⟩)) := by kernel_rfl

theorem e31 (C : CallT) (r0 : List (List V)) (r1 : List (List V)) : run1 Go.Ab.G20 Go.Ab.L20 C (.func 31) [.slice .any r0, .slice .any r1] [] =
  (C.w (roundK Go.Ab.G20 Go.Ab.L20 C 31 none 2) ⟨(sp 0 34 [(0, .slice .any r0), (1, .slice .any r1), (4, .bool false), (5, .int .i64 0)]), []⟩).bind fun x0 =>
  match x0.1 with
  | .normal =>
    none
  | .exit x2 =>
    cond (Nat.beq x2 0) (
     (asRows ((nth x0.2.t 0))).bind fun x3 =>
     (asRows ((nth x0.2.t 1))).bind fun x4 =>
     (asBool ((nth x0.2.t 4))).bind fun x5 =>
     (asInt .i64 ((nth x0.2.t 5))).bind fun x6 =>
     some (.bool true, [])) (
     none)
  | .ret =>
    (asRows ((nth x0.2.t 0))).bind fun x7 =>
    (asRows ((nth x0.2.t 1))).bind fun x8 =>
    (asBool ((nth x0.2.t 4))).bind fun x9 =>
    (asInt .i64 ((nth x0.2.t 5))).bind fun x10 =>
    some (.bool x9, []) := by kernel_rfl


end Go.Ab
/- What three small functions of the sanity check do, written out: by evaluation; conditions: none. -/
namespace Go.Ab
set_option linter.unusedVariables false
set_option linter.unusedSimpArgs false
set_option linter.unusedVariables false
theorem e32 (C : CallT) (n0 : Int) (n1 : Int) (n2 : Int) (n3 : Int) : run1 Go.Ab.G20 Go.Ab.L20 C (.func 32) [.int .i64 n0, .int .i64 n1, .int .i64 n2, .int .i64 n3] [] =
  some (.slice .any [[.int .i64 (Go.IntKind.wrap .i64 (n0 * 65536)), .int .i64 (Go.IntKind.wrap .i64 ((Go.IntKind.wrap .i64 (n1 - n0)) * 65536)), .slice .any [[.int .i64 (Go.IntKind.wrap .i64 (n2 * 65536)), .int .i64 (Go.IntKind.wrap .i64 (n3 * 65536))]], .slice .any [[.int .i64 (Go.IntKind.wrap .i64 (n2 * 65536)), .int .i64 (Go.IntKind.wrap .i64 (n3 * 65536))]], .slice .any [[.int .i64 (Go.IntKind.wrap .i64 (n2 * 65536)), .int .i64 (Go.IntKind.wrap .i64 (n3 * 65536))]], .slice .any [[.int .i64 (Go.IntKind.wrap .i64 (n2 * 65536)), .int .i64 (Go.IntKind.wrap .i64 (n3 * 65536))]]]], []) := by kernel_rfl


theorem e33 (C : CallT) (n0 : Int) : run1 Go.Ab.G20 Go.Ab.L20 C (.func 33) [.int .i64 n0] [] =
  some (.agg [.int .i64 1, .int .i64 (Go.IntKind.wrap .i64 (n0 * 65536))], []) := by kernel_rfl


theorem e34 (C : CallT) (n0 : Int) (n1 : Int) (n2 : Int) (n3 : Int) : run1 Go.Ab.G20 Go.Ab.L20 C (.func 34) [.agg [.int .i64 n0, .int .i64 n1], .int .i64 n2, .int .i64 n3] [] =
  cond (n0 == (Go.IntKind.wrap .i64 (n2 * 65536))) (
   some (.bool (n1 == (Go.IntKind.wrap .i64 (n3 * 65536))), [])) (
   some (.bool false, [])) := by kernel_rfl


end Go.Ab
/- What the calls do, written out: by evaluation; conditions: none. -/
namespace Go.Ab
set_option linter.unusedVariables false
set_option linter.unusedSimpArgs false
set_option linter.unusedVariables false
set_option maxHeartbeats 2000000
theorem e4_13 (C : CallT) (b0 : Bool) (r1 : List (List V)) (r2 : List (List V)) (n3 : Int) (n4 : Int) (n5 : Int) (n6 : Int) (n7 : Int) (r8 : List (List V)) (b9 : Bool) (n10 : Int) : roundK Go.Ab.G20 Go.Ab.L20 C 4 none 13 ⟨(sp 0 154 [(7, .bool b0), (8, .slice .any r1), (9, .slice .any r2), (10, .box [.int .i64 n3, .int .i64 n4]), (13, .box [.int .i64 n5, .int .i64 n6]), (17, .int .i64 n7), (18, .slice .any r8), (19, .bool b9), (20, .int .i64 n10)]), []⟩ =
  cond (decide (n10 ≤ ((r8.length : Nat) : Int))) (
   cond (decide (n10 > 0)) (
    (getRow r8 (Go.IntKind.wrap .i64 (n10 - 1)) 2).bind fun x6 =>
    (uncons x6).bind fun x7 =>
    (asInt .i64 (x7.1)).bind fun x8 =>
    (uncons x7.2).bind fun x9 =>
    (asInt .i64 (x9.1)).bind fun x10 =>
    (isNil x9.2).bind fun x11 =>
    cond (decide (n10 < ((r8.length : Nat) : Int))) (
     (getRow r8 n10 2).bind fun x12 =>
     (uncons x12).bind fun x13 =>
     (asInt .i64 (x13.1)).bind fun x14 =>
     (uncons x13.2).bind fun x15 =>
     (asInt .i64 (x15.1)).bind fun x16 =>
     (isNil x15.2).bind fun x17 =>
     cond b9 (
      some (.normal, ⟨(sp 0 154 [(7, .bool b0), (8, .slice .any r1), (9, .slice .any r2), (10, .box [.int .i64 n3, .int .i64 n4]), (13, .box [.int .i64 n5, .int .i64 n6]), (17, .int .i64 n7), (18, .slice .any r8), (19, .bool true), (20, .int .i64 (Go.IntKind.wrap .i64 (n10 + 1)))]), []⟩)) (
      some (.normal, ⟨(sp 0 154 [(7, .bool b0), (8, .slice .any r1), (9, .slice .any r2), (10, .box [.int .i64 n3, .int .i64 n4]), (13, .box [.int .i64 n5, .int .i64 n6]), (17, .int .i64 n7), (18, .slice .any r8), (19, .bool (decide ((if n5 > (Go.IntKind.wrap .i64 (x10 + 1)) then n5 else (Go.IntKind.wrap .i64 (x10 + 1))) ≤ (if n6 < (Go.IntKind.wrap .i64 (x14 - 1)) then n6 else (Go.IntKind.wrap .i64 (x14 - 1)))))), (20, .int .i64 (Go.IntKind.wrap .i64 (n10 + 1)))]), []⟩))) (
     cond b9 (
      some (.normal, ⟨(sp 0 154 [(7, .bool b0), (8, .slice .any r1), (9, .slice .any r2), (10, .box [.int .i64 n3, .int .i64 n4]), (13, .box [.int .i64 n5, .int .i64 n6]), (17, .int .i64 n7), (18, .slice .any r8), (19, .bool true), (20, .int .i64 (Go.IntKind.wrap .i64 (n10 + 1)))]), []⟩)) (
      some (.normal, ⟨(sp 0 154 [(7, .bool b0), (8, .slice .any r1), (9, .slice .any r2), (10, .box [.int .i64 n3, .int .i64 n4]), (13, .box [.int .i64 n5, .int .i64 n6]), (17, .int .i64 n7), (18, .slice .any r8), (19, .bool (decide ((if n5 > (Go.IntKind.wrap .i64 (x10 + 1)) then n5 else (Go.IntKind.wrap .i64 (x10 + 1))) ≤ (if n6 < 1099511627775 then n6 else 1099511627775)))), (20, .int .i64 (Go.IntKind.wrap .i64 (n10 + 1)))]), []⟩)))) (
    cond (decide (n10 < ((r8.length : Nat) : Int))) (
     (getRow r8 n10 2).bind fun x0 =>
     (uncons x0).bind fun x1 =>
     (asInt .i64 (x1.1)).bind fun x2 =>
     (uncons x1.2).bind fun x3 =>
     (asInt .i64 (x3.1)).bind fun x4 =>
     (isNil x3.2).bind fun x5 =>
     cond b9 (
      some (.normal, ⟨(sp 0 154 [(7, .bool b0), (8, .slice .any r1), (9, .slice .any r2), (10, .box [.int .i64 n3, .int .i64 n4]), (13, .box [.int .i64 n5, .int .i64 n6]), (17, .int .i64 n7), (18, .slice .any r8), (19, .bool true), (20, .int .i64 (Go.IntKind.wrap .i64 (n10 + 1)))]), []⟩)) (
      some (.normal, ⟨(sp 0 154 [(7, .bool b0), (8, .slice .any r1), (9, .slice .any r2), (10, .box [.int .i64 n3, .int .i64 n4]), (13, .box [.int .i64 n5, .int .i64 n6]), (17, .int .i64 n7), (18, .slice .any r8), (19, .bool (decide ((if n5 > (-1099511627775) then n5 else (-1099511627775)) ≤ (if n6 < (Go.IntKind.wrap .i64 (x2 - 1)) then n6 else (Go.IntKind.wrap .i64 (x2 - 1)))))), (20, .int .i64 (Go.IntKind.wrap .i64 (n10 + 1)))]), []⟩))) (
     cond b9 (
      some (.normal, ⟨(sp 0 154 [(7, .bool b0), (8, .slice .any r1), (9, .slice .any r2), (10, .box [.int .i64 n3, .int .i64 n4]), (13, .box [.int .i64 n5, .int .i64 n6]), (17, .int .i64 n7), (18, .slice .any r8), (19, .bool true), (20, .int .i64 (Go.IntKind.wrap .i64 (n10 + 1)))]), []⟩)) (
      some (.normal, ⟨(sp 0 154 [(7, .bool b0), (8, .slice .any r1), (9, .slice .any r2), (10, .box [.int .i64 n3, .int .i64 n4]), (13, .box [.int .i64 n5, .int .i64 n6]), (17, .int .i64 n7), (18, .slice .any r8), (19, .bool (decide ((if n5 > (-1099511627775) then n5 else (-1099511627775)) ≤ (if n6 < 1099511627775 then n6 else 1099511627775)))), (20, .int .i64 (Go.IntKind.wrap .i64 (n10 + 1)))]), []⟩))))) (
   some ((.exit 0), ⟨(sp 0 154 [(7, .bool b0), (8, .slice .any r1), (9, .slice .any r2), (10, .box [.int .i64 n3, .int .i64 n4]), (13, .box [.int .i64 n5, .int .i64 n6]), (17, .int .i64 n7), (18, .slice .any r8), (19, .bool b9), (20, .int .i64 n10)]), []⟩)) := by kernel_rfl

theorem e4 (C : CallT) (r0 : List (List V)) (r1 : List (List V)) (n2 : Int) (n3 : Int) (n4 : Int) (n5 : Int) (n6 : Int) (n7 : Int) (n8 : Int) (n9 : Int) (n10 : Int) (n11 : Int) : run1 Go.Ab.G20 Go.Ab.L20 C (.func 4) [.agg [.slice .any r0, .slice .any r1, .int .u8 n2, .int .i64 n3], .agg [.int .u8 n4, .int .u8 n5], .agg [.int .u32 n6, .int .u32 n7, .int .u32 n8, .int .u32 n9, .int .u32 n10, .int .u32 n11]] [] =
  (C.p (.func 11) []).bind fun x0 =>
  (asBool (x0)).bind fun x1 =>
  (C.p (.func 12) [.agg [.slice .any r0, .slice .any r1, .int .u8 n2, .int .i64 n3]]).bind fun x2 =>
  (asTuple (x2)).bind fun x3 =>
  (uncons x3).bind fun x4 =>
  (asRows (x4.1)).bind fun x5 =>
  (uncons x4.2).bind fun x6 =>
  (asRows (x6.1)).bind fun x7 =>
  (uncons x6.2).bind fun x8 =>
  (asCells (x8.1)).bind fun x9 =>
  (uncons x9).bind fun x10 =>
  (asInt .i64 (x10.1)).bind fun x11 =>
  (uncons x10.2).bind fun x12 =>
  (asInt .i64 (x12.1)).bind fun x13 =>
  (isNil x12.2).bind fun x14 =>
  (isNil x8.2).bind fun x15 =>
  cond (((x5.length : Nat) : Int) == 0) (
   none) (
   (getRow x5 (Int.tmod (Go.IntKind.wrap .i64 n4) ((x5.length : Nat) : Int)) 6).bind fun x16 =>
   (uncons x16).bind fun x17 =>
   (asInt .i64 (x17.1)).bind fun x18 =>
   (uncons x17.2).bind fun x19 =>
   (asInt .i64 (x19.1)).bind fun x20 =>
   (uncons x19.2).bind fun x21 =>
   (asRows (x21.1)).bind fun x22 =>
   (uncons x21.2).bind fun x23 =>
   (asRows (x23.1)).bind fun x24 =>
   (uncons x23.2).bind fun x25 =>
   (asRows (x25.1)).bind fun x26 =>
   (uncons x25.2).bind fun x27 =>
   (asRows (x27.1)).bind fun x28 =>
   (isNil x27.2).bind fun x29 =>
   cond (((x7.length : Nat) : Int) == 0) (
    none) (
    (getRow x7 (Int.tmod (Go.IntKind.wrap .i64 n5) ((x7.length : Nat) : Int)) 6).bind fun x30 =>
    (uncons x30).bind fun x31 =>
    (asInt .i64 (x31.1)).bind fun x32 =>
    (uncons x31.2).bind fun x33 =>
    (asInt .i64 (x33.1)).bind fun x34 =>
    (uncons x33.2).bind fun x35 =>
    (asRows (x35.1)).bind fun x36 =>
    (uncons x35.2).bind fun x37 =>
    (asRows (x37.1)).bind fun x38 =>
    (uncons x37.2).bind fun x39 =>
    (asRows (x39.1)).bind fun x40 =>
    (uncons x39.2).bind fun x41 =>
    (asRows (x41.1)).bind fun x42 =>
    (isNil x41.2).bind fun x43 =>
    (C.p (.func 24) [.agg [.int .i64 x18, .int .i64 x20, .slice .any x22, .slice .any x24, .slice .any x26, .slice .any x28]]).bind fun x44 =>
    (asCells (x44)).bind fun x45 =>
    (uncons x45).bind fun x46 =>
    (asInt .i64 (x46.1)).bind fun x47 =>
    (uncons x46.2).bind fun x48 =>
    (asInt .i64 (x48.1)).bind fun x49 =>
    (isNil x48.2).bind fun x50 =>
    (C.p (.func 24) [.agg [.int .i64 x32, .int .i64 x34, .slice .any x36, .slice .any x38, .slice .any x40, .slice .any x42]]).bind fun x51 =>
    (asCells (x51)).bind fun x52 =>
    (uncons x52).bind fun x53 =>
    (asInt .i64 (x53.1)).bind fun x54 =>
    (uncons x53.2).bind fun x55 =>
    (asInt .i64 (x55.1)).bind fun x56 =>
    (isNil x55.2).bind fun x57 =>
    (C.p (.func 23) [.agg [.int .i64 x47, .int .i64 x49], .agg [.int .i64 x54, .int .i64 x56]]).bind fun x58 =>
    (asTuple (x58)).bind fun x59 =>
    (uncons x59).bind fun x60 =>
    (asCells (x60.1)).bind fun x61 =>
    (uncons x61).bind fun x62 =>
    (asInt .i64 (x62.1)).bind fun x63 =>
    (uncons x62.2).bind fun x64 =>
    (asInt .i64 (x64.1)).bind fun x65 =>
    (isNil x64.2).bind fun x66 =>
    (uncons x60.2).bind fun x67 =>
    (asBool (x67.1)).bind fun x68 =>
    (isNil x67.2).bind fun x69 =>
    (C.p (.func 15) [.slice .any x5, .slice .any x7, .int .i64 x11]).bind fun x70 =>
    (asTuple (x70)).bind fun x71 =>
    (uncons x71).bind fun x72 =>
    (asCells (x72.1)).bind fun x73 =>
    (uncons x73).bind fun x74 =>
    (asInt .i64 (x74.1)).bind fun x75 =>
    (uncons x74.2).bind fun x76 =>
    (asInt .i64 (x76.1)).bind fun x77 =>
    (isNil x76.2).bind fun x78 =>
    (uncons x72.2).bind fun x79 =>
    (asBool (x79.1)).bind fun x80 =>
    (isNil x79.2).bind fun x81 =>
    cond (!x68) (
     some (.bool x1, [])) (
     (C.p (.func 25) [.slice .any x26, .slice .any x40, .agg [.int .u32 n6, .int .u32 n7, .int .u32 n8, .int .u32 n9, .int .u32 n10, .int .u32 n11], .int .i64 x11]).bind fun x82 =>
     (asInt .i64 (x82)).bind fun x83 =>
     cond (!x80) (
      some (.bool false, [])) (
      (C.p (.func 26) [.agg [.int .i64 x75, .int .i64 x77]]).bind fun x84 =>
      (asBool (x84)).bind fun x85 =>
      cond (!x85) (
       cond (decide (x83 < (Go.IntKind.wrap .i64 (x75 * 65536)))) (
        some (.bool false, [])) (
        (C.p (.func 21) [.slice .any x5, .slice .any x7, .agg [.int .i64 x11, .int .i64 x13]]).bind fun x112 =>
        (asRows (x112)).bind fun x113 =>
        (C.w (roundK Go.Ab.G20 Go.Ab.L20 C 4 none 13) ⟨(sp 0 154 [(7, .bool x1), (8, .slice .any x5), (9, .slice .any x7), (10, .box [.int .i64 x11, .int .i64 x13]), (13, .box [.int .i64 x63, .int .i64 x65]), (17, .int .i64 x83), (18, .slice .any x113), (19, .bool false), (20, .int .i64 0)]), []⟩).bind fun x114 =>
        match x114.1 with
        | .normal =>
          none
        | .exit x116 =>
          cond (Nat.beq x116 0) (
           (asBool ((nth x114.2.t 7))).bind fun x117 =>
           (asRows ((nth x114.2.t 8))).bind fun x118 =>
           (asRows ((nth x114.2.t 9))).bind fun x119 =>
           (asBox ((nth x114.2.t 10))).bind fun x120 =>
           (uncons x120).bind fun x121 =>
           (asInt .i64 (x121.1)).bind fun x122 =>
           (uncons x121.2).bind fun x123 =>
           (asInt .i64 (x123.1)).bind fun x124 =>
           (isNil x123.2).bind fun x125 =>
           (asBox ((nth x114.2.t 13))).bind fun x126 =>
           (uncons x126).bind fun x127 =>
           (asInt .i64 (x127.1)).bind fun x128 =>
           (uncons x127.2).bind fun x129 =>
           (asInt .i64 (x129.1)).bind fun x130 =>
           (isNil x129.2).bind fun x131 =>
           (asInt .i64 ((nth x114.2.t 17))).bind fun x132 =>
           (asRows ((nth x114.2.t 18))).bind fun x133 =>
           (asBool ((nth x114.2.t 19))).bind fun x134 =>
           (asInt .i64 ((nth x114.2.t 20))).bind fun x135 =>
           (C.p (.func 18) [.slice .any x118, .slice .any x119, .agg [.int .i64 x122, .int .i64 x124]]).bind fun x136 =>
           (asInt .i64 (x136)).bind fun x137 =>
           cond (!x134) (
            cond (!(x137 == 1)) (
             some (.bool x117, [])) (
             cond (decide (x132 > (Go.IntKind.wrap .i64 (x124 * x124)))) (
              some (.bool x117, [])) (
              some (.bool false, [])))) (
            cond (decide (x132 > (Go.IntKind.wrap .i64 (x124 * x124)))) (
             some (.bool x117, [])) (
             some (.bool false, [])))) (
           none)
        | .ret =>
          none)) (
       (C.p (.func 21) [.slice .any x5, .slice .any x7, .agg [.int .i64 x11, .int .i64 x13]]).bind fun x86 =>
       (asRows (x86)).bind fun x87 =>
       (C.w (roundK Go.Ab.G20 Go.Ab.L20 C 4 none 13) ⟨(sp 0 154 [(7, .bool x1), (8, .slice .any x5), (9, .slice .any x7), (10, .box [.int .i64 x11, .int .i64 x13]), (13, .box [.int .i64 x63, .int .i64 x65]), (17, .int .i64 x83), (18, .slice .any x87), (19, .bool false), (20, .int .i64 0)]), []⟩).bind fun x88 =>
       match x88.1 with
       | .normal =>
         none
       | .exit x90 =>
         cond (Nat.beq x90 0) (
          (asBool ((nth x88.2.t 7))).bind fun x91 =>
          (asRows ((nth x88.2.t 8))).bind fun x92 =>
          (asRows ((nth x88.2.t 9))).bind fun x93 =>
          (asBox ((nth x88.2.t 10))).bind fun x94 =>
          (uncons x94).bind fun x95 =>
          (asInt .i64 (x95.1)).bind fun x96 =>
          (uncons x95.2).bind fun x97 =>
          (asInt .i64 (x97.1)).bind fun x98 =>
          (isNil x97.2).bind fun x99 =>
          (asBox ((nth x88.2.t 13))).bind fun x100 =>
          (uncons x100).bind fun x101 =>
          (asInt .i64 (x101.1)).bind fun x102 =>
          (uncons x101.2).bind fun x103 =>
          (asInt .i64 (x103.1)).bind fun x104 =>
          (isNil x103.2).bind fun x105 =>
          (asInt .i64 ((nth x88.2.t 17))).bind fun x106 =>
          (asRows ((nth x88.2.t 18))).bind fun x107 =>
          (asBool ((nth x88.2.t 19))).bind fun x108 =>
          (asInt .i64 ((nth x88.2.t 20))).bind fun x109 =>
          (C.p (.func 18) [.slice .any x92, .slice .any x93, .agg [.int .i64 x96, .int .i64 x98]]).bind fun x110 =>
          (asInt .i64 (x110)).bind fun x111 =>
          cond (!x108) (
           cond (!(x111 == 1)) (
            some (.bool x91, [])) (
            cond (decide (x106 > (Go.IntKind.wrap .i64 (x98 * x98)))) (
             some (.bool x91, [])) (
             some (.bool false, [])))) (
           cond (decide (x106 > (Go.IntKind.wrap .i64 (x98 * x98)))) (
            some (.bool x91, [])) (
            some (.bool false, [])))) (
          none)
       | .ret =>
         none))))) := by kernel_rfl


theorem e25_3 (C : CallT) (r0 : List (List V)) (r1 : List (List V)) (n2 : Int) (n3 : Int) (n4 : Int) (n5 : Int) (n6 : Int) (n7 : Int) (n8 : Int) (n9 : Int) (n10 : Int) : roundK Go.Ab.G20 Go.Ab.L20 C 25 none 3 ⟨(sp 0 41 [(0, .slice .any r0), (1, .slice .any r1), (3, .int .i64 n2), (6, .box [.int .u32 n3, .int .u32 n4, .int .u32 n5, .int .u32 n6, .int .u32 n7, .int .u32 n8]), (9, .int .i64 n9), (10, .int .i64 n10)]), []⟩ =
  cond (decide (n10 < n2)) (
   (getRow r0 n10 2).bind fun x0 =>
   (uncons x0).bind fun x1 =>
   (asInt .i64 (x1.1)).bind fun x2 =>
   (uncons x1.2).bind fun x3 =>
   (asInt .i64 (x3.1)).bind fun x4 =>
   (isNil x3.2).bind fun x5 =>
   cond (decide (0 ≤ n10)) (
    cond (decide (n10.toNat < 6)) (
     (nthI [n3, n4, n5, n6, n7, n8] (n10.toNat * 1)).bind fun x6 =>
     (C.p (.func 55) [.agg [.int .i64 x2, .int .i64 x4], .int .u32 x6]).bind fun x7 =>
     (asInt .i64 (x7)).bind fun x8 =>
     (getRow r1 n10 2).bind fun x9 =>
     (uncons x9).bind fun x10 =>
     (asInt .i64 (x10.1)).bind fun x11 =>
     (uncons x10.2).bind fun x12 =>
     (asInt .i64 (x12.1)).bind fun x13 =>
     (isNil x12.2).bind fun x14 =>
     cond (decide (0 ≤ (Go.IntKind.wrap .i64 (n10 + 3)))) (
      cond (decide ((Go.IntKind.wrap .i64 (n10 + 3)).toNat < 6)) (
       (nthI [n3, n4, n5, n6, n7, n8] ((Go.IntKind.wrap .i64 (n10 + 3)).toNat * 1)).bind fun x15 =>
       (C.p (.func 55) [.agg [.int .i64 x11, .int .i64 x13], .int .u32 x15]).bind fun x16 =>
       (asInt .i64 (x16)).bind fun x17 =>
       some (.normal, ⟨(sp 0 41 [(0, .slice .any r0), (1, .slice .any r1), (3, .int .i64 n2), (6, .box [.int .u32 n3, .int .u32 n4, .int .u32 n5, .int .u32 n6, .int .u32 n7, .int .u32 n8]), (9, .int .i64 (Go.IntKind.wrap .i64 (n9 + (Go.IntKind.wrap .i64 ((Go.IntKind.wrap .i64 (x8 - x17)) * (Go.IntKind.wrap .i64 (x8 - x17))))))), (10, .int .i64 (Go.IntKind.wrap .i64 (n10 + 1)))]), []⟩)) (
       none)) (
      none)) (
     none)) (
    none)) (
   some ((.exit 0), ⟨(sp 0 41 [(0, .slice .any r0), (1, .slice .any r1), (3, .int .i64 n2), (6, .box [.int .u32 n3, .int .u32 n4, .int .u32 n5, .int .u32 n6, .int .u32 n7, .int .u32 n8]), (9, .int .i64 n9), (10, .int .i64 n10)]), []⟩)) := by kernel_rfl

theorem e25 (C : CallT) (r0 : List (List V)) (r1 : List (List V)) (n2 : Int) (n3 : Int) (n4 : Int) (n5 : Int) (n6 : Int) (n7 : Int) (n8 : Int) : run1 Go.Ab.G20 Go.Ab.L20 C (.func 25) [.slice .any r0, .slice .any r1, .agg [.int .u32 n2, .int .u32 n3, .int .u32 n4, .int .u32 n5, .int .u32 n6, .int .u32 n7], .int .i64 n8] [] =
  (C.w (roundK Go.Ab.G20 Go.Ab.L20 C 25 none 3) ⟨(sp 0 41 [(0, .slice .any r0), (1, .slice .any r1), (3, .int .i64 n8), (6, .box [.int .u32 n2, .int .u32 n3, .int .u32 n4, .int .u32 n5, .int .u32 n6, .int .u32 n7]), (9, .int .i64 0), (10, .int .i64 0)]), []⟩).bind fun x0 =>
  match x0.1 with
  | .normal =>
    none
  | .exit x2 =>
    cond (Nat.beq x2 0) (
     (asRows ((nth x0.2.t 0))).bind fun x3 =>
     (asRows ((nth x0.2.t 1))).bind fun x4 =>
     (asInt .i64 ((nth x0.2.t 3))).bind fun x5 =>
     (asBox ((nth x0.2.t 6))).bind fun x6 =>
     (uncons x6).bind fun x7 =>
     (asInt .u32 (x7.1)).bind fun x8 =>
     (uncons x7.2).bind fun x9 =>
     (asInt .u32 (x9.1)).bind fun x10 =>
     (uncons x9.2).bind fun x11 =>
     (asInt .u32 (x11.1)).bind fun x12 =>
     (uncons x11.2).bind fun x13 =>
     (asInt .u32 (x13.1)).bind fun x14 =>
     (uncons x13.2).bind fun x15 =>
     (asInt .u32 (x15.1)).bind fun x16 =>
     (uncons x15.2).bind fun x17 =>
     (asInt .u32 (x17.1)).bind fun x18 =>
     (isNil x17.2).bind fun x19 =>
     (asInt .i64 ((nth x0.2.t 9))).bind fun x20 =>
     (asInt .i64 ((nth x0.2.t 10))).bind fun x21 =>
     some (.int .i64 x20, [])) (
     none)
  | .ret =>
    none := by kernel_rfl


end Go.Ab
/- What the calls do, written out: by evaluation; conditions: none. -/
namespace Go.Ab
set_option linter.unusedVariables false
set_option linter.unusedSimpArgs false
set_option linter.unusedVariables false
set_option maxHeartbeats 2000000
theorem e8 (C : CallT) (r0 : List (List V)) (r1 : List (List V)) (n2 : Int) (n3 : Int) (n4 : Int) (n5 : Int) : run1 Go.Ab.G20 Go.Ab.L20 C (.func 8) [.agg [.slice .any r0, .slice .any r1, .int .u8 n2, .int .i64 n3], .int .u16 n4, .int .u32 n5] [] =
  (C.p (.func 11) []).bind fun x0 =>
  (asBool (x0)).bind fun x1 =>
  (C.p (.func 12) [.agg [.slice .any r0, .slice .any r1, .int .u8 n2, .int .i64 n3]]).bind fun x2 =>
  (asTuple (x2)).bind fun x3 =>
  (uncons x3).bind fun x4 =>
  (asRows (x4.1)).bind fun x5 =>
  (uncons x4.2).bind fun x6 =>
  (asRows (x6.1)).bind fun x7 =>
  (uncons x6.2).bind fun x8 =>
  (asCells (x8.1)).bind fun x9 =>
  (uncons x9).bind fun x10 =>
  (asInt .i64 (x10.1)).bind fun x11 =>
  (uncons x10.2).bind fun x12 =>
  (asInt .i64 (x12.1)).bind fun x13 =>
  (isNil x12.2).bind fun x14 =>
  (isNil x8.2).bind fun x15 =>
  (C.p (.func 29) [.slice .any x5, .int .i64 (Go.IntKind.wrap .i64 n4)]).bind fun x16 =>
  (asRows (x16)).bind fun x17 =>
  cond ((Go.IntKind.wrap .i64 (x13 + 1)) == 0) (
   none) (
   (C.p (.func 15) [.slice .any x5, .slice .any x7, .int .i64 x11]).bind fun x18 =>
   (asTuple (x18)).bind fun x19 =>
   (uncons x19).bind fun x20 =>
   (asCells (x20.1)).bind fun x21 =>
   (uncons x21).bind fun x22 =>
   (asInt .i64 (x22.1)).bind fun x23 =>
   (uncons x22.2).bind fun x24 =>
   (asInt .i64 (x24.1)).bind fun x25 =>
   (isNil x24.2).bind fun x26 =>
   (uncons x20.2).bind fun x27 =>
   (asBool (x27.1)).bind fun x28 =>
   (isNil x27.2).bind fun x29 =>
   (C.p (.func 15) [.slice .any x17, .slice .any x7, .int .i64 x11]).bind fun x30 =>
   (asTuple (x30)).bind fun x31 =>
   (uncons x31).bind fun x32 =>
   (asCells (x32.1)).bind fun x33 =>
   (uncons x33).bind fun x34 =>
   (asInt .i64 (x34.1)).bind fun x35 =>
   (uncons x34.2).bind fun x36 =>
   (asInt .i64 (x36.1)).bind fun x37 =>
   (isNil x36.2).bind fun x38 =>
   (uncons x32.2).bind fun x39 =>
   (asBool (x39.1)).bind fun x40 =>
   (isNil x39.2).bind fun x41 =>
   cond (!(x28 == x40)) (
    some (.bool false, [])) (
    cond x28 (
     (C.p (.func 26) [.agg [.int .i64 x35, .int .i64 x37]]).bind fun x66 =>
     (asBool (x66)).bind fun x67 =>
     cond (!x67) (
      (C.p (.func 30) [.agg [.int .i64 x23, .int .i64 x25], .agg [.int .i64 x35, .int .i64 x37]]).bind fun x92 =>
      (asBool (x92)).bind fun x93 =>
      cond (!x93) (
       some (.bool false, [])) (
       (C.p (.func 21) [.slice .any x5, .slice .any x7, .agg [.int .i64 x11, .int .i64 x13]]).bind fun x94 =>
       (asRows (x94)).bind fun x95 =>
       (C.p (.func 21) [.slice .any x17, .slice .any x7, .agg [.int .i64 x11, .int .i64 x13]]).bind fun x96 =>
       (asRows (x96)).bind fun x97 =>
       (C.p (.func 31) [.slice .any x95, .slice .any x97]).bind fun x98 =>
       (asBool (x98)).bind fun x99 =>
       cond (!x99) (
        some (.bool false, [])) (
        (C.p (.func 21) [.slice .any x5, .slice .any x7, .agg [.int .i64 x11, .int .i64 (Go.IntKind.wrap .i64 (x13 - (Int.tmod (Go.IntKind.wrap .i64 n5) (Go.IntKind.wrap .i64 (x13 + 1)))))]]).bind fun x100 =>
        (asRows (x100)).bind fun x101 =>
        (C.p (.func 21) [.slice .any x5, .slice .any x7, .agg [.int .i64 x11, .int .i64 x13]]).bind fun x102 =>
        (asRows (x102)).bind fun x103 =>
        (C.p (.func 31) [.slice .any x101, .slice .any x103]).bind fun x104 =>
        (asBool (x104)).bind fun x105 =>
        cond (!x105) (
         some (.bool false, [])) (
         (C.p (.func 18) [.slice .any x5, .slice .any x7, .agg [.int .i64 x11, .int .i64 x13]]).bind fun x106 =>
         (asInt .i64 (x106)).bind fun x107 =>
         (C.p (.func 18) [.slice .any x5, .slice .any x7, .agg [.int .i64 x11, .int .i64 (Go.IntKind.wrap .i64 (x13 - (Int.tmod (Go.IntKind.wrap .i64 n5) (Go.IntKind.wrap .i64 (x13 + 1)))))]]).bind fun x108 =>
         (asInt .i64 (x108)).bind fun x109 =>
         cond (x107 != 1) (
          cond (x109 != (-1)) (
           (C.p (.func 18) [.slice .any x17, .slice .any x7, .agg [.int .i64 x11, .int .i64 x13]]).bind fun x116 =>
           (asInt .i64 (x116)).bind fun x117 =>
           cond (x117 != 1) (
            some (.bool x1, [])) (
            cond (x107 == 1) (
             some (.bool x1, [])) (
             some (.bool false, [])))) (
           cond (x107 == (-1)) (
            (C.p (.func 18) [.slice .any x17, .slice .any x7, .agg [.int .i64 x11, .int .i64 x13]]).bind fun x114 =>
            (asInt .i64 (x114)).bind fun x115 =>
            cond (x115 != 1) (
             some (.bool x1, [])) (
             cond (x107 == 1) (
              some (.bool x1, [])) (
              some (.bool false, [])))) (
            some (.bool false, [])))) (
          cond (x109 == 1) (
           cond (x109 != (-1)) (
            (C.p (.func 18) [.slice .any x17, .slice .any x7, .agg [.int .i64 x11, .int .i64 x13]]).bind fun x112 =>
            (asInt .i64 (x112)).bind fun x113 =>
            cond (x113 != 1) (
             some (.bool x1, [])) (
             cond (x107 == 1) (
              some (.bool x1, [])) (
              some (.bool false, [])))) (
            cond (x107 == (-1)) (
             (C.p (.func 18) [.slice .any x17, .slice .any x7, .agg [.int .i64 x11, .int .i64 x13]]).bind fun x110 =>
             (asInt .i64 (x110)).bind fun x111 =>
             cond (x111 != 1) (
              some (.bool x1, [])) (
              cond (x107 == 1) (
               some (.bool x1, [])) (
               some (.bool false, [])))) (
             some (.bool false, [])))) (
           some (.bool false, []))))))) (
      (C.p (.func 21) [.slice .any x5, .slice .any x7, .agg [.int .i64 x11, .int .i64 x13]]).bind fun x68 =>
      (asRows (x68)).bind fun x69 =>
      (C.p (.func 21) [.slice .any x17, .slice .any x7, .agg [.int .i64 x11, .int .i64 x13]]).bind fun x70 =>
      (asRows (x70)).bind fun x71 =>
      (C.p (.func 31) [.slice .any x69, .slice .any x71]).bind fun x72 =>
      (asBool (x72)).bind fun x73 =>
      cond (!x73) (
       some (.bool false, [])) (
       (C.p (.func 21) [.slice .any x5, .slice .any x7, .agg [.int .i64 x11, .int .i64 (Go.IntKind.wrap .i64 (x13 - (Int.tmod (Go.IntKind.wrap .i64 n5) (Go.IntKind.wrap .i64 (x13 + 1)))))]]).bind fun x74 =>
       (asRows (x74)).bind fun x75 =>
       (C.p (.func 21) [.slice .any x5, .slice .any x7, .agg [.int .i64 x11, .int .i64 x13]]).bind fun x76 =>
       (asRows (x76)).bind fun x77 =>
       (C.p (.func 31) [.slice .any x75, .slice .any x77]).bind fun x78 =>
       (asBool (x78)).bind fun x79 =>
       cond (!x79) (
        some (.bool false, [])) (
        (C.p (.func 18) [.slice .any x5, .slice .any x7, .agg [.int .i64 x11, .int .i64 x13]]).bind fun x80 =>
        (asInt .i64 (x80)).bind fun x81 =>
        (C.p (.func 18) [.slice .any x5, .slice .any x7, .agg [.int .i64 x11, .int .i64 (Go.IntKind.wrap .i64 (x13 - (Int.tmod (Go.IntKind.wrap .i64 n5) (Go.IntKind.wrap .i64 (x13 + 1)))))]]).bind fun x82 =>
        (asInt .i64 (x82)).bind fun x83 =>
        cond (x81 != 1) (
         cond (x83 != (-1)) (
          (C.p (.func 18) [.slice .any x17, .slice .any x7, .agg [.int .i64 x11, .int .i64 x13]]).bind fun x90 =>
          (asInt .i64 (x90)).bind fun x91 =>
          cond (x91 != 1) (
           some (.bool x1, [])) (
           cond (x81 == 1) (
            some (.bool x1, [])) (
            some (.bool false, [])))) (
          cond (x81 == (-1)) (
           (C.p (.func 18) [.slice .any x17, .slice .any x7, .agg [.int .i64 x11, .int .i64 x13]]).bind fun x88 =>
           (asInt .i64 (x88)).bind fun x89 =>
           cond (x89 != 1) (
            some (.bool x1, [])) (
            cond (x81 == 1) (
             some (.bool x1, [])) (
             some (.bool false, [])))) (
           some (.bool false, [])))) (
         cond (x83 == 1) (
          cond (x83 != (-1)) (
           (C.p (.func 18) [.slice .any x17, .slice .any x7, .agg [.int .i64 x11, .int .i64 x13]]).bind fun x86 =>
           (asInt .i64 (x86)).bind fun x87 =>
           cond (x87 != 1) (
            some (.bool x1, [])) (
            cond (x81 == 1) (
             some (.bool x1, [])) (
             some (.bool false, [])))) (
           cond (x81 == (-1)) (
            (C.p (.func 18) [.slice .any x17, .slice .any x7, .agg [.int .i64 x11, .int .i64 x13]]).bind fun x84 =>
            (asInt .i64 (x84)).bind fun x85 =>
            cond (x85 != 1) (
             some (.bool x1, [])) (
             cond (x81 == 1) (
              some (.bool x1, [])) (
              some (.bool false, [])))) (
            some (.bool false, [])))) (
          some (.bool false, []))))))) (
     (C.p (.func 21) [.slice .any x5, .slice .any x7, .agg [.int .i64 x11, .int .i64 x13]]).bind fun x42 =>
     (asRows (x42)).bind fun x43 =>
     (C.p (.func 21) [.slice .any x17, .slice .any x7, .agg [.int .i64 x11, .int .i64 x13]]).bind fun x44 =>
     (asRows (x44)).bind fun x45 =>
     (C.p (.func 31) [.slice .any x43, .slice .any x45]).bind fun x46 =>
     (asBool (x46)).bind fun x47 =>
     cond (!x47) (
      some (.bool false, [])) (
      (C.p (.func 21) [.slice .any x5, .slice .any x7, .agg [.int .i64 x11, .int .i64 (Go.IntKind.wrap .i64 (x13 - (Int.tmod (Go.IntKind.wrap .i64 n5) (Go.IntKind.wrap .i64 (x13 + 1)))))]]).bind fun x48 =>
      (asRows (x48)).bind fun x49 =>
      (C.p (.func 21) [.slice .any x5, .slice .any x7, .agg [.int .i64 x11, .int .i64 x13]]).bind fun x50 =>
      (asRows (x50)).bind fun x51 =>
      (C.p (.func 31) [.slice .any x49, .slice .any x51]).bind fun x52 =>
      (asBool (x52)).bind fun x53 =>
      cond (!x53) (
       some (.bool false, [])) (
       (C.p (.func 18) [.slice .any x5, .slice .any x7, .agg [.int .i64 x11, .int .i64 x13]]).bind fun x54 =>
       (asInt .i64 (x54)).bind fun x55 =>
       (C.p (.func 18) [.slice .any x5, .slice .any x7, .agg [.int .i64 x11, .int .i64 (Go.IntKind.wrap .i64 (x13 - (Int.tmod (Go.IntKind.wrap .i64 n5) (Go.IntKind.wrap .i64 (x13 + 1)))))]]).bind fun x56 =>
       (asInt .i64 (x56)).bind fun x57 =>
       cond (x55 != 1) (
        cond (x57 != (-1)) (
         (C.p (.func 18) [.slice .any x17, .slice .any x7, .agg [.int .i64 x11, .int .i64 x13]]).bind fun x64 =>
         (asInt .i64 (x64)).bind fun x65 =>
         cond (x65 != 1) (
          some (.bool x1, [])) (
          cond (x55 == 1) (
           some (.bool x1, [])) (
           some (.bool false, [])))) (
         cond (x55 == (-1)) (
          (C.p (.func 18) [.slice .any x17, .slice .any x7, .agg [.int .i64 x11, .int .i64 x13]]).bind fun x62 =>
          (asInt .i64 (x62)).bind fun x63 =>
          cond (x63 != 1) (
           some (.bool x1, [])) (
           cond (x55 == 1) (
            some (.bool x1, [])) (
            some (.bool false, [])))) (
          some (.bool false, [])))) (
        cond (x57 == 1) (
         cond (x57 != (-1)) (
          (C.p (.func 18) [.slice .any x17, .slice .any x7, .agg [.int .i64 x11, .int .i64 x13]]).bind fun x60 =>
          (asInt .i64 (x60)).bind fun x61 =>
          cond (x61 != 1) (
           some (.bool x1, [])) (
           cond (x55 == 1) (
            some (.bool x1, [])) (
            some (.bool false, [])))) (
          cond (x55 == (-1)) (
           (C.p (.func 18) [.slice .any x17, .slice .any x7, .agg [.int .i64 x11, .int .i64 x13]]).bind fun x58 =>
           (asInt .i64 (x58)).bind fun x59 =>
           cond (x59 != 1) (
            some (.bool x1, [])) (
            cond (x55 == 1) (
             some (.bool x1, [])) (
             some (.bool false, [])))) (
           some (.bool false, [])))) (
         some (.bool false, [])))))))) := by kernel_rfl


theorem e59_3 (C : CallT) (r0 : List (List V)) (r1 : List (List V)) (n2 : Int) (n3 : Int) : roundK Go.Ab.G20 Go.Ab.L20 C 59 none 3 ⟨(sp 0 25 [(0, .slice .any r1), (1, .int .i64 n2), (5, .arr 0 r0.length 2), (6, .int .i64 n3)]), [.arr true 2 r0]⟩ =
  cond (decide (n3 < ((r1.length : Nat) : Int))) (
   (getRow r1 n3 2).bind fun x0 =>
   (uncons x0).bind fun x1 =>
   (asInt .i64 (x1.1)).bind fun x2 =>
   (uncons x1.2).bind fun x3 =>
   (asInt .i64 (x3.1)).bind fun x4 =>
   (isNil x3.2).bind fun x5 =>
   (C.p (.func 84) [.int .i64 n2]).bind fun x6 =>
   (asCells (x6)).bind fun x7 =>
   (uncons x7).bind fun x8 =>
   (asInt .i64 (x8.1)).bind fun x9 =>
   (uncons x8.2).bind fun x10 =>
   (asInt .i64 (x10.1)).bind fun x11 =>
   (isNil x10.2).bind fun x12 =>
   (C.p (.func 56) [.agg [.int .i64 x2, .int .i64 x4], .agg [.int .i64 x9, .int .i64 x11]]).bind fun x13 =>
   (asCells (x13)).bind fun x14 =>
   (uncons x14).bind fun x15 =>
   (asInt .i64 (x15.1)).bind fun x16 =>
   (uncons x15.2).bind fun x17 =>
   (asInt .i64 (x17.1)).bind fun x18 =>
   (isNil x17.2).bind fun x19 =>
   cond (decide (r0.length = r0.length)) (
    cond (decide (((r0.length + 1) * 16) ≤ room)) (
     some (.normal, ⟨(sp 0 25 [(0, .slice .any r1), (1, .int .i64 n2), (5, .arr 0 (r0.length + 1) 2), (6, .int .i64 (Go.IntKind.wrap .i64 (n3 + 1)))]), [.arr true 2 (List.append r0 [[.int .i64 x16, .int .i64 x18]])]⟩)) (
     none)) (
    none)) (
   some ((.exit 0), ⟨(sp 0 25 [(0, .slice .any r1), (1, .int .i64 n2), (5, .arr 0 r0.length 2), (6, .int .i64 n3)]), [.arr true 2 r0]⟩)) := by kernel_rfl

theorem e59 (C : CallT) (r0 : List (List V)) (n1 : Int) : run1 Go.Ab.G20 Go.Ab.L20 C (.func 59) [.slice .any r0, .int .i64 n1] [] =
  (C.w (roundK Go.Ab.G20 Go.Ab.L20 C 59 none 3) ⟨(sp 0 25 [(0, .slice .any r0), (1, .int .i64 n1), (5, .arr 0 0 2), (6, .int .i64 0)]), [.arr true 2 []]⟩).bind fun x0 =>
  match x0.1 with
  | .normal =>
    none
  | .exit x2 =>
    cond (Nat.beq x2 0) (
     (asRows ((nth x0.2.t 0))).bind fun x3 =>
     (asInt .i64 ((nth x0.2.t 1))).bind fun x4 =>
     (asArr 0 2 ((nth x0.2.t 5))).bind fun x5 =>
     (asInt .i64 ((nth x0.2.t 6))).bind fun x6 =>
     (unconsO x0.2.h).bind fun x7 =>
     (asObArr true 2 x7.1).bind fun x8 =>
     (arrRows [.arr true 2 x8] 0 x5).bind fun x9 =>
     some (.slice .any x9, [.arr false 2 x8])) (
     none)
  | .ret =>
    none := by kernel_rfl


theorem e60_3 (C : CallT) (r0 : List (List V)) (r1 : List (List V)) (n2 : Int) (n3 : Int) : roundK Go.Ab.G20 Go.Ab.L20 C 60 none 3 ⟨(sp 0 36 [(0, .slice .any r1), (1, .int .i64 n2), (5, .arr 0 r0.length 2), (6, .int .i64 n3)]), [.arr true 2 r0]⟩ =
  cond (decide (n3 < ((r1.length : Nat) : Int))) (
   (getRow r1 n3 2).bind fun x0 =>
   (uncons x0).bind fun x1 =>
   (asInt .i64 (x1.1)).bind fun x2 =>
   (uncons x1.2).bind fun x3 =>
   (asInt .i64 (x3.1)).bind fun x4 =>
   (isNil x3.2).bind fun x5 =>
   (C.p (.func 26) [.agg [.int .i64 x2, .int .i64 x4]]).bind fun x6 =>
   (asBool (x6)).bind fun x7 =>
   cond (!x7) (
    (C.p (.func 43) [.int .i64 (Go.IntKind.wrap .i64 (x2 - n2)), .int .i64 (Go.IntKind.wrap .i64 (x4 + n2))]).bind fun x8 =>
    (asCells (x8)).bind fun x9 =>
    (uncons x9).bind fun x10 =>
    (asInt .i64 (x10.1)).bind fun x11 =>
    (uncons x10.2).bind fun x12 =>
    (asInt .i64 (x12.1)).bind fun x13 =>
    (isNil x12.2).bind fun x14 =>
    cond (decide (r0.length = r0.length)) (
     cond (decide (((r0.length + 1) * 16) ≤ room)) (
      some (.normal, ⟨(sp 0 36 [(0, .slice .any r1), (1, .int .i64 n2), (5, .arr 0 (r0.length + 1) 2), (6, .int .i64 (Go.IntKind.wrap .i64 (n3 + 1)))]), [.arr true 2 (List.append r0 [[.int .i64 x11, .int .i64 x13]])]⟩)) (
      none)) (
     none)) (
    cond (decide (r0.length = r0.length)) (
     cond (decide (((r0.length + 1) * 16) ≤ room)) (
      some (.normal, ⟨(sp 0 36 [(0, .slice .any r1), (1, .int .i64 n2), (5, .arr 0 (r0.length + 1) 2), (6, .int .i64 (Go.IntKind.wrap .i64 (n3 + 1)))]), [.arr true 2 (List.append r0 [[.int .i64 x2, .int .i64 x4]])]⟩)) (
      none)) (
     none))) (
   some ((.exit 0), ⟨(sp 0 36 [(0, .slice .any r1), (1, .int .i64 n2), (5, .arr 0 r0.length 2), (6, .int .i64 n3)]), [.arr true 2 r0]⟩)) := by kernel_rfl

theorem e60 (C : CallT) (r0 : List (List V)) (n1 : Int) : run1 Go.Ab.G20 Go.Ab.L20 C (.func 60) [.slice .any r0, .int .i64 n1] [] =
  (C.w (roundK Go.Ab.G20 Go.Ab.L20 C 60 none 3) ⟨(sp 0 36 [(0, .slice .any r0), (1, .int .i64 n1), (5, .arr 0 0 2), (6, .int .i64 0)]), [.arr true 2 []]⟩).bind fun x0 =>
  match x0.1 with
  | .normal =>
    none
  | .exit x2 =>
    cond (Nat.beq x2 0) (
     (asRows ((nth x0.2.t 0))).bind fun x3 =>
     (asInt .i64 ((nth x0.2.t 1))).bind fun x4 =>
     (asArr 0 2 ((nth x0.2.t 5))).bind fun x5 =>
     (asInt .i64 ((nth x0.2.t 6))).bind fun x6 =>
     (unconsO x0.2.h).bind fun x7 =>
     (asObArr true 2 x7.1).bind fun x8 =>
     (arrRows [.arr true 2 x8] 0 x5).bind fun x9 =>
     some (.slice .any x9, [.arr false 2 x8])) (
     none)
  | .ret =>
    none := by kernel_rfl


theorem e84 (C : CallT) (n0 : Int) : run1 Go.Ab.G20 Go.Ab.L20 C (.func 84) [.int .i64 n0] [] =
  (C.p (.func 43) [.int .i64 n0, .int .i64 n0]).bind fun x0 =>
  (asCells (x0)).bind fun x1 =>
  (uncons x1).bind fun x2 =>
  (asInt .i64 (x2.1)).bind fun x3 =>
  (uncons x2.2).bind fun x4 =>
  (asInt .i64 (x4.1)).bind fun x5 =>
  (isNil x4.2).bind fun x6 =>
  some (.agg [.int .i64 x3, .int .i64 x5], []) := by kernel_rfl


end Go.Ab
/- More calls: see the text that is imported; conditions: none. -/

/- More calls: see the text that is imported; conditions: none. -/

/- More calls: see the text that is imported; conditions: none. -/

