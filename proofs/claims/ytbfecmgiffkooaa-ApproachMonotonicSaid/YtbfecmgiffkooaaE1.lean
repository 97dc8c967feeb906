/- What one call of each function does, written out: by evaluation; conditions: none. -/
import Derived.KernelRfl
import Derived.Test.YtbfecmgiffkooaaT20
namespace Go.Ab
set_option linter.unusedVariables false
set_option linter.unusedSimpArgs false
set_option linter.unusedVariables false
set_option linter.unusedSimpArgs false
set_option linter.unusedVariables false
set_option maxHeartbeats 2000000
theorem e79 (C : CallT) (n0 : Int) : run1 Go.Ab.G20 Go.Ab.L20 C (.func 79) [.int .i64 n0] [] =
  some (.bool (n0 != n0), []) := by kernel_rfl

theorem e52 (C : CallT) (n0 : Int) (n1 : Int) : run1 Go.Ab.G20 Go.Ab.L20 C (.func 52) [.int .i64 n0, .int .i64 n1] [] =
  (C.p (.func 79) [.int .i64 n0]).bind fun x0 =>
  (asBool (x0)).bind fun x1 =>
  (C.p (.func 79) [.int .i64 n1]).bind fun x2 =>
  (asBool (x2)).bind fun x3 =>
  cond x1 (
   cond x3 (
    some (.int .i64 0, [])) (
    some (.int .i64 (-1), []))) (
   cond x3 (
    some (.int .i64 1, [])) (
    cond (decide (n0 < n1)) (
     some (.int .i64 (-1), [])) (
     cond (decide (n0 > n1)) (
      some (.int .i64 1, [])) (
      some (.int .i64 0, []))))) := by kernel_rfl

theorem e101 (C : CallT) (n0 : Int) : run1 Go.Ab.G20 Go.Ab.L20 C (.func 101) [.int .u64 n0] [] =
  cond (decide (n0 ≥ 4294967296)) (
   cond (decide ((Int.fdiv n0 4294967296) ≥ 65536)) (
    cond (decide ((Int.fdiv (Int.fdiv n0 4294967296) 65536) ≥ 256)) (
     (strAt ⟨#[0, 1, 2, 2, 3, 3, 3, 3, 4, 4, 4, 4, 4, 4, 4, 4, 5, 5, 5, 5, 5, 5, 5, 5, 5, 5, 5, 5, 5, 5, 5, 5, 6, 6, 6, 6, 6, 6, 6, 6, 6, 6, 6, 6, 6, 6, 6, 6, 6, 6, 6, 6, 6, 6, 6, 6, 6, 6, 6, 6, 6, 6, 6, 6, 7, 7, 7, 7, 7, 7, 7, 7, 7, 7, 7, 7, 7, 7, 7, 7, 7, 7, 7, 7, 7, 7, 7, 7, 7, 7, 7, 7, 7, 7, 7, 7, 7, 7, 7, 7, 7, 7, 7, 7, 7, 7, 7, 7, 7, 7, 7, 7, 7, 7, 7, 7, 7, 7, 7, 7, 7, 7, 7, 7, 7, 7, 7, 7, 8, 8, 8, 8, 8, 8, 8, 8, 8, 8, 8, 8, 8, 8, 8, 8, 8, 8, 8, 8, 8, 8, 8, 8, 8, 8, 8, 8, 8, 8, 8, 8, 8, 8, 8, 8, 8, 8, 8, 8, 8, 8, 8, 8, 8, 8, 8, 8, 8, 8, 8, 8, 8, 8, 8, 8, 8, 8, 8, 8, 8, 8, 8, 8, 8, 8, 8, 8, 8, 8, 8, 8, 8, 8, 8, 8, 8, 8, 8, 8, 8, 8, 8, 8, 8, 8, 8, 8, 8, 8, 8, 8, 8, 8, 8, 8, 8, 8, 8, 8, 8, 8, 8, 8, 8, 8, 8, 8, 8, 8, 8, 8, 8, 8, 8, 8, 8, 8, 8, 8, 8, 8, 8, 8, 8, 8, 8, 8]⟩ (Go.IntKind.wrap .u8 (Int.fdiv (Int.fdiv (Int.fdiv n0 4294967296) 65536) 256))).bind fun x7 =>
     some (.int .i64 (Go.IntKind.wrap .i64 (56 + (Go.IntKind.wrap .i64 x7))), [])) (
     (strAt ⟨#[0, 1, 2, 2, 3, 3, 3, 3, 4, 4, 4, 4, 4, 4, 4, 4, 5, 5, 5, 5, 5, 5, 5, 5, 5, 5, 5, 5, 5, 5, 5, 5, 6, 6, 6, 6, 6, 6, 6, 6, 6, 6, 6, 6, 6, 6, 6, 6, 6, 6, 6, 6, 6, 6, 6, 6, 6, 6, 6, 6, 6, 6, 6, 6, 7, 7, 7, 7, 7, 7, 7, 7, 7, 7, 7, 7, 7, 7, 7, 7, 7, 7, 7, 7, 7, 7, 7, 7, 7, 7, 7, 7, 7, 7, 7, 7, 7, 7, 7, 7, 7, 7, 7, 7, 7, 7, 7, 7, 7, 7, 7, 7, 7, 7, 7, 7, 7, 7, 7, 7, 7, 7, 7, 7, 7, 7, 7, 7, 8, 8, 8, 8, 8, 8, 8, 8, 8, 8, 8, 8, 8, 8, 8, 8, 8, 8, 8, 8, 8, 8, 8, 8, 8, 8, 8, 8, 8, 8, 8, 8, 8, 8, 8, 8, 8, 8, 8, 8, 8, 8, 8, 8, 8, 8, 8, 8, 8, 8, 8, 8, 8, 8, 8, 8, 8, 8, 8, 8, 8, 8, 8, 8, 8, 8, 8, 8, 8, 8, 8, 8, 8, 8, 8, 8, 8, 8, 8, 8, 8, 8, 8, 8, 8, 8, 8, 8, 8, 8, 8, 8, 8, 8, 8, 8, 8, 8, 8, 8, 8, 8, 8, 8, 8, 8, 8, 8, 8, 8, 8, 8, 8, 8, 8, 8, 8, 8, 8, 8, 8, 8, 8, 8, 8, 8, 8, 8]⟩ (Go.IntKind.wrap .u8 (Int.fdiv (Int.fdiv n0 4294967296) 65536))).bind fun x6 =>
     some (.int .i64 (Go.IntKind.wrap .i64 (48 + (Go.IntKind.wrap .i64 x6))), []))) (
    cond (decide ((Int.fdiv n0 4294967296) ≥ 256)) (
     (strAt ⟨#[0, 1, 2, 2, 3, 3, 3, 3, 4, 4, 4, 4, 4, 4, 4, 4, 5, 5, 5, 5, 5, 5, 5, 5, 5, 5, 5, 5, 5, 5, 5, 5, 6, 6, 6, 6, 6, 6, 6, 6, 6, 6, 6, 6, 6, 6, 6, 6, 6, 6, 6, 6, 6, 6, 6, 6, 6, 6, 6, 6, 6, 6, 6, 6, 7, 7, 7, 7, 7, 7, 7, 7, 7, 7, 7, 7, 7, 7, 7, 7, 7, 7, 7, 7, 7, 7, 7, 7, 7, 7, 7, 7, 7, 7, 7, 7, 7, 7, 7, 7, 7, 7, 7, 7, 7, 7, 7, 7, 7, 7, 7, 7, 7, 7, 7, 7, 7, 7, 7, 7, 7, 7, 7, 7, 7, 7, 7, 7, 8, 8, 8, 8, 8, 8, 8, 8, 8, 8, 8, 8, 8, 8, 8, 8, 8, 8, 8, 8, 8, 8, 8, 8, 8, 8, 8, 8, 8, 8, 8, 8, 8, 8, 8, 8, 8, 8, 8, 8, 8, 8, 8, 8, 8, 8, 8, 8, 8, 8, 8, 8, 8, 8, 8, 8, 8, 8, 8, 8, 8, 8, 8, 8, 8, 8, 8, 8, 8, 8, 8, 8, 8, 8, 8, 8, 8, 8, 8, 8, 8, 8, 8, 8, 8, 8, 8, 8, 8, 8, 8, 8, 8, 8, 8, 8, 8, 8, 8, 8, 8, 8, 8, 8, 8, 8, 8, 8, 8, 8, 8, 8, 8, 8, 8, 8, 8, 8, 8, 8, 8, 8, 8, 8, 8, 8, 8, 8]⟩ (Go.IntKind.wrap .u8 (Int.fdiv (Int.fdiv n0 4294967296) 256))).bind fun x5 =>
     some (.int .i64 (Go.IntKind.wrap .i64 (40 + (Go.IntKind.wrap .i64 x5))), [])) (
     (strAt ⟨#[0, 1, 2, 2, 3, 3, 3, 3, 4, 4, 4, 4, 4, 4, 4, 4, 5, 5, 5, 5, 5, 5, 5, 5, 5, 5, 5, 5, 5, 5, 5, 5, 6, 6, 6, 6, 6, 6, 6, 6, 6, 6, 6, 6, 6, 6, 6, 6, 6, 6, 6, 6, 6, 6, 6, 6, 6, 6, 6, 6, 6, 6, 6, 6, 7, 7, 7, 7, 7, 7, 7, 7, 7, 7, 7, 7, 7, 7, 7, 7, 7, 7, 7, 7, 7, 7, 7, 7, 7, 7, 7, 7, 7, 7, 7, 7, 7, 7, 7, 7, 7, 7, 7, 7, 7, 7, 7, 7, 7, 7, 7, 7, 7, 7, 7, 7, 7, 7, 7, 7, 7, 7, 7, 7, 7, 7, 7, 7, 8, 8, 8, 8, 8, 8, 8, 8, 8, 8, 8, 8, 8, 8, 8, 8, 8, 8, 8, 8, 8, 8, 8, 8, 8, 8, 8, 8, 8, 8, 8, 8, 8, 8, 8, 8, 8, 8, 8, 8, 8, 8, 8, 8, 8, 8, 8, 8, 8, 8, 8, 8, 8, 8, 8, 8, 8, 8, 8, 8, 8, 8, 8, 8, 8, 8, 8, 8, 8, 8, 8, 8, 8, 8, 8, 8, 8, 8, 8, 8, 8, 8, 8, 8, 8, 8, 8, 8, 8, 8, 8, 8, 8, 8, 8, 8, 8, 8, 8, 8, 8, 8, 8, 8, 8, 8, 8, 8, 8, 8, 8, 8, 8, 8, 8, 8, 8, 8, 8, 8, 8, 8, 8, 8, 8, 8, 8, 8]⟩ (Go.IntKind.wrap .u8 (Int.fdiv n0 4294967296))).bind fun x4 =>
     some (.int .i64 (Go.IntKind.wrap .i64 (32 + (Go.IntKind.wrap .i64 x4))), [])))) (
   cond (decide (n0 ≥ 65536)) (
    cond (decide ((Int.fdiv n0 65536) ≥ 256)) (
     (strAt ⟨#[0, 1, 2, 2, 3, 3, 3, 3, 4, 4, 4, 4, 4, 4, 4, 4, 5, 5, 5, 5, 5, 5, 5, 5, 5, 5, 5, 5, 5, 5, 5, 5, 6, 6, 6, 6, 6, 6, 6, 6, 6, 6, 6, 6, 6, 6, 6, 6, 6, 6, 6, 6, 6, 6, 6, 6, 6, 6, 6, 6, 6, 6, 6, 6, 7, 7, 7, 7, 7, 7, 7, 7, 7, 7, 7, 7, 7, 7, 7, 7, 7, 7, 7, 7, 7, 7, 7, 7, 7, 7, 7, 7, 7, 7, 7, 7, 7, 7, 7, 7, 7, 7, 7, 7, 7, 7, 7, 7, 7, 7, 7, 7, 7, 7, 7, 7, 7, 7, 7, 7, 7, 7, 7, 7, 7, 7, 7, 7, 8, 8, 8, 8, 8, 8, 8, 8, 8, 8, 8, 8, 8, 8, 8, 8, 8, 8, 8, 8, 8, 8, 8, 8, 8, 8, 8, 8, 8, 8, 8, 8, 8, 8, 8, 8, 8, 8, 8, 8, 8, 8, 8, 8, 8, 8, 8, 8, 8, 8, 8, 8, 8, 8, 8, 8, 8, 8, 8, 8, 8, 8, 8, 8, 8, 8, 8, 8, 8, 8, 8, 8, 8, 8, 8, 8, 8, 8, 8, 8, 8, 8, 8, 8, 8, 8, 8, 8, 8, 8, 8, 8, 8, 8, 8, 8, 8, 8, 8, 8, 8, 8, 8, 8, 8, 8, 8, 8, 8, 8, 8, 8, 8, 8, 8, 8, 8, 8, 8, 8, 8, 8, 8, 8, 8, 8, 8, 8]⟩ (Go.IntKind.wrap .u8 (Int.fdiv (Int.fdiv n0 65536) 256))).bind fun x3 =>
     some (.int .i64 (Go.IntKind.wrap .i64 (24 + (Go.IntKind.wrap .i64 x3))), [])) (
     (strAt ⟨#[0, 1, 2, 2, 3, 3, 3, 3, 4, 4, 4, 4, 4, 4, 4, 4, 5, 5, 5, 5, 5, 5, 5, 5, 5, 5, 5, 5, 5, 5, 5, 5, 6, 6, 6, 6, 6, 6, 6, 6, 6, 6, 6, 6, 6, 6, 6, 6, 6, 6, 6, 6, 6, 6, 6, 6, 6, 6, 6, 6, 6, 6, 6, 6, 7, 7, 7, 7, 7, 7, 7, 7, 7, 7, 7, 7, 7, 7, 7, 7, 7, 7, 7, 7, 7, 7, 7, 7, 7, 7, 7, 7, 7, 7, 7, 7, 7, 7, 7, 7, 7, 7, 7, 7, 7, 7, 7, 7, 7, 7, 7, 7, 7, 7, 7, 7, 7, 7, 7, 7, 7, 7, 7, 7, 7, 7, 7, 7, 8, 8, 8, 8, 8, 8, 8, 8, 8, 8, 8, 8, 8, 8, 8, 8, 8, 8, 8, 8, 8, 8, 8, 8, 8, 8, 8, 8, 8, 8, 8, 8, 8, 8, 8, 8, 8, 8, 8, 8, 8, 8, 8, 8, 8, 8, 8, 8, 8, 8, 8, 8, 8, 8, 8, 8, 8, 8, 8, 8, 8, 8, 8, 8, 8, 8, 8, 8, 8, 8, 8, 8, 8, 8, 8, 8, 8, 8, 8, 8, 8, 8, 8, 8, 8, 8, 8, 8, 8, 8, 8, 8, 8, 8, 8, 8, 8, 8, 8, 8, 8, 8, 8, 8, 8, 8, 8, 8, 8, 8, 8, 8, 8, 8, 8, 8, 8, 8, 8, 8, 8, 8, 8, 8, 8, 8, 8, 8]⟩ (Go.IntKind.wrap .u8 (Int.fdiv n0 65536))).bind fun x2 =>
     some (.int .i64 (Go.IntKind.wrap .i64 (16 + (Go.IntKind.wrap .i64 x2))), []))) (
    cond (decide (n0 ≥ 256)) (
     (strAt ⟨#[0, 1, 2, 2, 3, 3, 3, 3, 4, 4, 4, 4, 4, 4, 4, 4, 5, 5, 5, 5, 5, 5, 5, 5, 5, 5, 5, 5, 5, 5, 5, 5, 6, 6, 6, 6, 6, 6, 6, 6, 6, 6, 6, 6, 6, 6, 6, 6, 6, 6, 6, 6, 6, 6, 6, 6, 6, 6, 6, 6, 6, 6, 6, 6, 7, 7, 7, 7, 7, 7, 7, 7, 7, 7, 7, 7, 7, 7, 7, 7, 7, 7, 7, 7, 7, 7, 7, 7, 7, 7, 7, 7, 7, 7, 7, 7, 7, 7, 7, 7, 7, 7, 7, 7, 7, 7, 7, 7, 7, 7, 7, 7, 7, 7, 7, 7, 7, 7, 7, 7, 7, 7, 7, 7, 7, 7, 7, 7, 8, 8, 8, 8, 8, 8, 8, 8, 8, 8, 8, 8, 8, 8, 8, 8, 8, 8, 8, 8, 8, 8, 8, 8, 8, 8, 8, 8, 8, 8, 8, 8, 8, 8, 8, 8, 8, 8, 8, 8, 8, 8, 8, 8, 8, 8, 8, 8, 8, 8, 8, 8, 8, 8, 8, 8, 8, 8, 8, 8, 8, 8, 8, 8, 8, 8, 8, 8, 8, 8, 8, 8, 8, 8, 8, 8, 8, 8, 8, 8, 8, 8, 8, 8, 8, 8, 8, 8, 8, 8, 8, 8, 8, 8, 8, 8, 8, 8, 8, 8, 8, 8, 8, 8, 8, 8, 8, 8, 8, 8, 8, 8, 8, 8, 8, 8, 8, 8, 8, 8, 8, 8, 8, 8, 8, 8, 8, 8]⟩ (Go.IntKind.wrap .u8 (Int.fdiv n0 256))).bind fun x1 =>
     some (.int .i64 (Go.IntKind.wrap .i64 (8 + (Go.IntKind.wrap .i64 x1))), [])) (
     (strAt ⟨#[0, 1, 2, 2, 3, 3, 3, 3, 4, 4, 4, 4, 4, 4, 4, 4, 5, 5, 5, 5, 5, 5, 5, 5, 5, 5, 5, 5, 5, 5, 5, 5, 6, 6, 6, 6, 6, 6, 6, 6, 6, 6, 6, 6, 6, 6, 6, 6, 6, 6, 6, 6, 6, 6, 6, 6, 6, 6, 6, 6, 6, 6, 6, 6, 7, 7, 7, 7, 7, 7, 7, 7, 7, 7, 7, 7, 7, 7, 7, 7, 7, 7, 7, 7, 7, 7, 7, 7, 7, 7, 7, 7, 7, 7, 7, 7, 7, 7, 7, 7, 7, 7, 7, 7, 7, 7, 7, 7, 7, 7, 7, 7, 7, 7, 7, 7, 7, 7, 7, 7, 7, 7, 7, 7, 7, 7, 7, 7, 8, 8, 8, 8, 8, 8, 8, 8, 8, 8, 8, 8, 8, 8, 8, 8, 8, 8, 8, 8, 8, 8, 8, 8, 8, 8, 8, 8, 8, 8, 8, 8, 8, 8, 8, 8, 8, 8, 8, 8, 8, 8, 8, 8, 8, 8, 8, 8, 8, 8, 8, 8, 8, 8, 8, 8, 8, 8, 8, 8, 8, 8, 8, 8, 8, 8, 8, 8, 8, 8, 8, 8, 8, 8, 8, 8, 8, 8, 8, 8, 8, 8, 8, 8, 8, 8, 8, 8, 8, 8, 8, 8, 8, 8, 8, 8, 8, 8, 8, 8, 8, 8, 8, 8, 8, 8, 8, 8, 8, 8, 8, 8, 8, 8, 8, 8, 8, 8, 8, 8, 8, 8, 8, 8, 8, 8, 8, 8]⟩ (Go.IntKind.wrap .u8 n0)).bind fun x0 =>
     some (.int .i64 (Go.IntKind.wrap .i64 (0 + (Go.IntKind.wrap .i64 x0))), [])))) := by kernel_rfl

theorem e78 (C : CallT) (n0 : Int) : run1 Go.Ab.G20 Go.Ab.L20 C (.func 78) [.int .u64 n0] [] =
  (C.p (.func 101) [.int .u64 n0]).bind fun x0 =>
  (asInt .i64 (x0)).bind fun x1 =>
  some (.int .i64 x1, []) := by kernel_rfl

theorem s106 (C : CallT) (r0 : List (List V)) (n1 : Int) : run1 Go.Ab.G20 Go.Ab.L20 C (.func 106) [.slice .any r0, .int .i64 n1, .undef, .nilfn] [] =
  (C.s (.func 107) [.slice .any r0, .int .i64 (Go.IntKind.wrap .i64 (n1 - 1)), .int .i64 n1, .int .i64 (Go.IntKind.wrap .i64 (n1 + 1)), .undef, .nilfn] []).bind fun x0 =>
  (asInt .i64 (x0.1)).bind fun x1 =>
  some (.int .i64 x1, []) := by kernel_rfl

theorem s110 (C : CallT) (r0 : List (List V)) (n1 : Int) (n2 : Int) : run1 Go.Ab.G20 Go.Ab.L20 C (.func 110) [.slice .any r0, .int .i64 n1, .int .i64 n2, .undef, .nilfn] [] =
  (getRow r0 n2 2).bind fun x0 =>
  (uncons x0).bind fun x1 =>
  (asInt .i64 (x1.1)).bind fun x2 =>
  (uncons x1.2).bind fun x3 =>
  (asInt .i64 (x3.1)).bind fun x4 =>
  (isNil x3.2).bind fun x5 =>
  (getRow r0 n1 2).bind fun x6 =>
  (uncons x6).bind fun x7 =>
  (asInt .i64 (x7.1)).bind fun x8 =>
  (uncons x7.2).bind fun x9 =>
  (asInt .i64 (x9.1)).bind fun x10 =>
  (isNil x9.2).bind fun x11 =>
  none := by kernel_rfl

theorem s107 (C : CallT) (r0 : List (List V)) (n1 : Int) (n2 : Int) (n3 : Int) : run1 Go.Ab.G20 Go.Ab.L20 C (.func 107) [.slice .any r0, .int .i64 n1, .int .i64 n2, .int .i64 n3, .undef, .nilfn] [] =
  (C.s (.func 110) [.slice .any r0, .int .i64 n1, .int .i64 n2, .undef, .nilfn] []).bind fun x0 =>
  (asTuple (x0.1)).bind fun x1 =>
  (uncons x1).bind fun x2 =>
  (asInt .i64 (x2.1)).bind fun x3 =>
  (uncons x2.2).bind fun x4 =>
  (asInt .i64 (x4.1)).bind fun x5 =>
  (isNil x4.2).bind fun x6 =>
  (C.s (.func 110) [.slice .any r0, .int .i64 x5, .int .i64 n3, .undef, .nilfn] []).bind fun x7 =>
  (asTuple (x7.1)).bind fun x8 =>
  (uncons x8).bind fun x9 =>
  (asInt .i64 (x9.1)).bind fun x10 =>
  (uncons x9.2).bind fun x11 =>
  (asInt .i64 (x11.1)).bind fun x12 =>
  (isNil x11.2).bind fun x13 =>
  (C.s (.func 110) [.slice .any r0, .int .i64 x3, .int .i64 x10, .undef, .nilfn] []).bind fun x14 =>
  (asTuple (x14.1)).bind fun x15 =>
  (uncons x15).bind fun x16 =>
  (asInt .i64 (x16.1)).bind fun x17 =>
  (uncons x16.2).bind fun x18 =>
  (asInt .i64 (x18.1)).bind fun x19 =>
  (isNil x18.2).bind fun x20 =>
  some (.int .i64 x19, []) := by kernel_rfl

theorem e95 (C : CallT) (r0 : List (List V)) (n1 : Int) (n2 : Int) : run1 Go.Ab.G20 Go.Ab.L20 C (.func 95) [.slice .any r0, .int .i64 n1, .int .i64 n2, .nilfn] [] =
  cond (decide ((Go.IntKind.wrap .i64 (n2 - n1)) ≥ 8)) (
   cond (decide ((Go.IntKind.wrap .i64 (n2 - n1)) ≥ 50)) (
    (C.s (.func 106) [.slice .any r0, .int .i64 (Go.IntKind.wrap .i64 (n1 + (Go.IntKind.wrap .i64 ((Go.IntKind.wrap .i64 (Int.tdiv (Go.IntKind.wrap .i64 (n2 - n1)) 4)) * 1)))), .undef, .nilfn] []).bind fun x2 =>
    (asInt .i64 (x2.1)).bind fun x3 =>
    (C.s (.func 106) [.slice .any r0, .int .i64 (Go.IntKind.wrap .i64 (n1 + (Go.IntKind.wrap .i64 ((Go.IntKind.wrap .i64 (Int.tdiv (Go.IntKind.wrap .i64 (n2 - n1)) 4)) * 2)))), .undef, .nilfn] []).bind fun x4 =>
    (asInt .i64 (x4.1)).bind fun x5 =>
    (C.s (.func 106) [.slice .any r0, .int .i64 (Go.IntKind.wrap .i64 (n1 + (Go.IntKind.wrap .i64 ((Go.IntKind.wrap .i64 (Int.tdiv (Go.IntKind.wrap .i64 (n2 - n1)) 4)) * 3)))), .undef, .nilfn] []).bind fun x6 =>
    (asInt .i64 (x6.1)).bind fun x7 =>
    (C.s (.func 107) [.slice .any r0, .int .i64 x3, .int .i64 x5, .int .i64 x7, .undef, .nilfn] []).bind fun x8 =>
    (asInt .i64 (x8.1)).bind fun x9 =>
    some (.tuple [.int .i64 x9, .int .i64 1], [])) (
    (C.s (.func 107) [.slice .any r0, .int .i64 (Go.IntKind.wrap .i64 (n1 + (Go.IntKind.wrap .i64 ((Go.IntKind.wrap .i64 (Int.tdiv (Go.IntKind.wrap .i64 (n2 - n1)) 4)) * 1)))), .int .i64 (Go.IntKind.wrap .i64 (n1 + (Go.IntKind.wrap .i64 ((Go.IntKind.wrap .i64 (Int.tdiv (Go.IntKind.wrap .i64 (n2 - n1)) 4)) * 2)))), .int .i64 (Go.IntKind.wrap .i64 (n1 + (Go.IntKind.wrap .i64 ((Go.IntKind.wrap .i64 (Int.tdiv (Go.IntKind.wrap .i64 (n2 - n1)) 4)) * 3)))), .undef, .nilfn] []).bind fun x0 =>
    (asInt .i64 (x0.1)).bind fun x1 =>
    some (.tuple [.int .i64 x1, .int .i64 1], []))) (
   some (.tuple [.int .i64 (Go.IntKind.wrap .i64 (n1 + (Go.IntKind.wrap .i64 ((Go.IntKind.wrap .i64 (Int.tdiv (Go.IntKind.wrap .i64 (n2 - n1)) 4)) * 2)))), .int .i64 1], [])) := by kernel_rfl

theorem e97_5 (C : CallT) (r0 : List (List V)) (n1 : Int) (n2 : Int) (b3 : Bool) (n4 : Int) (n5 : Int) : roundK Go.Ab.G20 Go.Ab.L20 C 97 none 5 ⟨(sp 0 141 [(0, .slice .any r0), (1, .int .i64 n1), (2, .int .i64 n2), (3, .nilfn), (8, .bool b3), (9, .int .i64 n4), (10, .int .i64 n5)]), []⟩ =
  cond (decide (n4 < n2)) (
   (getRow r0 n4 2).bind fun x0 =>
   (uncons x0).bind fun x1 =>
   (asInt .i64 (x1.1)).bind fun x2 =>
   (uncons x1.2).bind fun x3 =>
   (asInt .i64 (x3.1)).bind fun x4 =>
   (isNil x3.2).bind fun x5 =>
   (getRow r0 (Go.IntKind.wrap .i64 (n4 - 1)) 2).bind fun x6 =>
   (uncons x6).bind fun x7 =>
   (asInt .i64 (x7.1)).bind fun x8 =>
   (uncons x7.2).bind fun x9 =>
   (asInt .i64 (x9.1)).bind fun x10 =>
   (isNil x9.2).bind fun x11 =>
   none) (
   some ((.exit 2), ⟨(sp 0 141 [(0, .slice .any r0), (1, .int .i64 n1), (2, .int .i64 n2), (3, .nilfn), (8, .bool b3), (9, .int .i64 n4), (10, .int .i64 n5)]), []⟩)) := by kernel_rfl

theorem e97_3 (C : CallT) (r0 : List (List V)) (n1 : Int) (n2 : Int) (b3 : Bool) (n4 : Int) (n5 : Int) : roundK Go.Ab.G20 Go.Ab.L20 C 97 none 3 ⟨(sp 0 141 [(0, .slice .any r0), (1, .int .i64 n1), (2, .int .i64 n2), (3, .nilfn), (8, .bool b3), (9, .int .i64 n4), (10, .int .i64 n5)]), []⟩ =
  cond (decide (n5 < 5)) (
   (C.w (roundK Go.Ab.G20 Go.Ab.L20 C 97 none 5) ⟨(sp 0 141 [(0, .slice .any r0), (1, .int .i64 n1), (2, .int .i64 n2), (3, .nilfn), (8, .bool b3), (9, .int .i64 n4), (10, .int .i64 n5)]), []⟩).bind fun x0 =>
   match x0.1 with
   | .normal =>
     none
   | .exit x2 =>
     cond (Nat.beq x2 2) (
      (asRows ((nth x0.2.t 0))).bind fun x3 =>
      (asInt .i64 ((nth x0.2.t 1))).bind fun x4 =>
      (asInt .i64 ((nth x0.2.t 2))).bind fun x5 =>
      (asBool ((nth x0.2.t 8))).bind fun x6 =>
      (asInt .i64 ((nth x0.2.t 9))).bind fun x7 =>
      (asInt .i64 ((nth x0.2.t 10))).bind fun x8 =>
      cond (x7 == x5) (
       some (.ret, ⟨(sp 0 141 [(0, .slice .any x3), (1, .int .i64 x4), (2, .int .i64 x5), (8, .bool true), (9, .int .i64 x7), (10, .int .i64 x8)]), []⟩)) (
       cond (decide ((Go.IntKind.wrap .i64 (x5 - x4)) < 50)) (
        some (.ret, ⟨(sp 0 141 [(0, .slice .any x3), (1, .int .i64 x4), (2, .int .i64 x5), (8, .bool false), (9, .int .i64 x7), (10, .int .i64 x8)]), []⟩)) (
        none))) (
      none)
   | .ret =>
     none) (
   some ((.exit 0), ⟨(sp 0 141 [(0, .slice .any r0), (1, .int .i64 n1), (2, .int .i64 n2), (3, .nilfn), (8, .bool b3), (9, .int .i64 n4), (10, .int .i64 n5)]), []⟩)) := by kernel_rfl

theorem e97 (C : CallT) (r0 : List (List V)) (n1 : Int) (n2 : Int) : run1 Go.Ab.G20 Go.Ab.L20 C (.func 97) [.slice .any r0, .int .i64 n1, .int .i64 n2, .nilfn] [] =
  (C.w (roundK Go.Ab.G20 Go.Ab.L20 C 97 none 3) ⟨(sp 0 141 [(0, .slice .any r0), (1, .int .i64 n1), (2, .int .i64 n2), (3, .nilfn), (8, .bool false), (9, .int .i64 (Go.IntKind.wrap .i64 (n1 + 1))), (10, .int .i64 0)]), []⟩).bind fun x0 =>
  match x0.1 with
  | .normal =>
    none
  | .exit x2 =>
    cond (Nat.beq x2 0) (
     (asRows ((nth x0.2.t 0))).bind fun x3 =>
     (asInt .i64 ((nth x0.2.t 1))).bind fun x4 =>
     (asInt .i64 ((nth x0.2.t 2))).bind fun x5 =>
     (asBool ((nth x0.2.t 8))).bind fun x6 =>
     (asInt .i64 ((nth x0.2.t 9))).bind fun x7 =>
     (asInt .i64 ((nth x0.2.t 10))).bind fun x8 =>
     some (.bool false, [])) (
     none)
  | .ret =>
    (asRows ((nth x0.2.t 0))).bind fun x9 =>
    (asInt .i64 ((nth x0.2.t 1))).bind fun x10 =>
    (asInt .i64 ((nth x0.2.t 2))).bind fun x11 =>
    (asBool ((nth x0.2.t 8))).bind fun x12 =>
    (asInt .i64 ((nth x0.2.t 9))).bind fun x13 =>
    (asInt .i64 ((nth x0.2.t 10))).bind fun x14 =>
    some (.bool x12, []) := by kernel_rfl

theorem e92_4 (C : CallT) (r0 : List (List V)) (n1 : Int) (n2 : Int) (n3 : Int) (n4 : Int) : roundK Go.Ab.G20 Go.Ab.L20 C 92 none 4 ⟨(sp 0 53 [(0, .slice .any r0), (1, .int .i64 n1), (2, .int .i64 n2), (3, .nilfn), (8, .int .i64 n3), (9, .int .i64 n4)]), []⟩ =
  cond (decide (n4 > n1)) (
   (getRow r0 n4 2).bind fun x0 =>
   (uncons x0).bind fun x1 =>
   (asInt .i64 (x1.1)).bind fun x2 =>
   (uncons x1.2).bind fun x3 =>
   (asInt .i64 (x3.1)).bind fun x4 =>
   (isNil x3.2).bind fun x5 =>
   (getRow r0 (Go.IntKind.wrap .i64 (n4 - 1)) 2).bind fun x6 =>
   (uncons x6).bind fun x7 =>
   (asInt .i64 (x7.1)).bind fun x8 =>
   (uncons x7.2).bind fun x9 =>
   (asInt .i64 (x9.1)).bind fun x10 =>
   (isNil x9.2).bind fun x11 =>
   none) (
   some ((.exit 2), ⟨(sp 0 53 [(0, .slice .any r0), (1, .int .i64 n1), (2, .int .i64 n2), (3, .nilfn), (8, .int .i64 n3), (9, .int .i64 n4)]), []⟩)) := by kernel_rfl

theorem e92_1 (C : CallT) (r0 : List (List V)) (n1 : Int) (n2 : Int) (n3 : Int) : roundK Go.Ab.G20 Go.Ab.L20 C 92 none 1 ⟨(sp 0 53 [(0, .slice .any r0), (1, .int .i64 n1), (2, .int .i64 n2), (3, .nilfn), (8, .int .i64 n3)]), []⟩ =
  cond (decide (n3 < n2)) (
   (C.w (roundK Go.Ab.G20 Go.Ab.L20 C 92 none 4) ⟨(sp 0 53 [(0, .slice .any r0), (1, .int .i64 n1), (2, .int .i64 n2), (3, .nilfn), (8, .int .i64 n3), (9, .int .i64 n3)]), []⟩).bind fun x0 =>
   match x0.1 with
   | .normal =>
     none
   | .exit x2 =>
     cond (Nat.beq x2 2) (
      (asRows ((nth x0.2.t 0))).bind fun x3 =>
      (asInt .i64 ((nth x0.2.t 1))).bind fun x4 =>
      (asInt .i64 ((nth x0.2.t 2))).bind fun x5 =>
      (asInt .i64 ((nth x0.2.t 8))).bind fun x6 =>
      (asInt .i64 ((nth x0.2.t 9))).bind fun x7 =>
      some (.normal, ⟨(sp 0 53 [(0, .slice .any x3), (1, .int .i64 x4), (2, .int .i64 x5), (8, .int .i64 (Go.IntKind.wrap .i64 (x6 + 1)))]), []⟩)) (
      none)
   | .ret =>
     none) (
   some ((.exit 0), ⟨(sp 0 53 [(0, .slice .any r0), (1, .int .i64 n1), (2, .int .i64 n2), (3, .nilfn), (8, .int .i64 n3)]), []⟩)) := by kernel_rfl

theorem e92 (C : CallT) (r0 : List (List V)) (n1 : Int) (n2 : Int) : run1 Go.Ab.G20 Go.Ab.L20 C (.func 92) [.slice .any r0, .int .i64 n1, .int .i64 n2, .nilfn] [] =
  (C.w (roundK Go.Ab.G20 Go.Ab.L20 C 92 none 1) ⟨(sp 0 53 [(0, .slice .any r0), (1, .int .i64 n1), (2, .int .i64 n2), (3, .nilfn), (8, .int .i64 (Go.IntKind.wrap .i64 (n1 + 1)))]), []⟩).bind fun x0 =>
  match x0.1 with
  | .normal =>
    none
  | .exit x2 =>
    cond (Nat.beq x2 0) (
     (asRows ((nth x0.2.t 0))).bind fun x3 =>
     (asInt .i64 ((nth x0.2.t 1))).bind fun x4 =>
     (asInt .i64 ((nth x0.2.t 2))).bind fun x5 =>
     (asInt .i64 ((nth x0.2.t 8))).bind fun x6 =>
     some (.tuple [], [])) (
     none)
  | .ret =>
    none := by kernel_rfl

theorem e77_2 (C : CallT) (r0 : List (List V)) (n1 : Int) (n2 : Int) (n3 : Int) (b4 : Bool) (b5 : Bool) : roundK Go.Ab.G20 Go.Ab.L20 C 77 none 2 ⟨(sp 0 148 [(0, .slice .any r0), (1, .int .i64 n1), (2, .int .i64 n2), (3, .int .i64 n3), (4, .nilfn), (10, .bool b4), (11, .bool b5)]), []⟩ =
  cond (decide ((Go.IntKind.wrap .i64 (n2 - n1)) ≤ 12)) (
   (C.p (.func 92) [.slice .any r0, .int .i64 n1, .int .i64 n2, .nilfn]).bind fun x9 =>
   (asTuple (x9)).bind fun x10 =>
   (isNil x10).bind fun x11 =>
   some (.ret, ⟨(sp 0 148 [(0, .slice .any r0), (1, .int .i64 n1), (2, .int .i64 n2), (3, .int .i64 n3), (4, .nilfn), (10, .bool b4), (11, .bool b5)]), []⟩)) (
   cond (n3 == 0) (
    none) (
    cond (!b4) (
     none) (
     (C.p (.func 95) [.slice .any r0, .int .i64 n1, .int .i64 n2, .nilfn]).bind fun x0 =>
     (asTuple (x0)).bind fun x1 =>
     (uncons x1).bind fun x2 =>
     (asInt .i64 (x2.1)).bind fun x3 =>
     (uncons x2.2).bind fun x4 =>
     (asInt .i64 (x4.1)).bind fun x5 =>
     (isNil x4.2).bind fun x6 =>
     cond (x5 == 2) (
      none) (
      cond b4 (
       cond b5 (
        cond (x5 == 1) (
         (C.p (.func 97) [.slice .any r0, .int .i64 n1, .int .i64 n2, .nilfn]).bind fun x7 =>
         (asBool (x7)).bind fun x8 =>
         cond x8 (
          some (.ret, ⟨(sp 0 148 [(0, .slice .any r0), (1, .int .i64 n1), (2, .int .i64 n2), (3, .int .i64 n3), (4, .nilfn), (10, .bool b4), (11, .bool b5)]), []⟩)) (
          none)) (
         none)) (
        none)) (
       none))))) := by kernel_rfl

theorem e77 (C : CallT) (r0 : List (List V)) (n1 : Int) (n2 : Int) (n3 : Int) : run1 Go.Ab.G20 Go.Ab.L20 C (.func 77) [.slice .any r0, .int .i64 n1, .int .i64 n2, .int .i64 n3, .nilfn] [] =
  (C.w (roundK Go.Ab.G20 Go.Ab.L20 C 77 none 2) ⟨(sp 0 148 [(0, .slice .any r0), (1, .int .i64 n1), (2, .int .i64 n2), (3, .int .i64 n3), (4, .nilfn), (10, .bool true), (11, .bool true)]), []⟩).bind fun x0 =>
  match x0.1 with
  | .normal =>
    none
  | .exit x2 =>
    none
  | .ret =>
    (asRows ((nth x0.2.t 0))).bind fun x3 =>
    (asInt .i64 ((nth x0.2.t 1))).bind fun x4 =>
    (asInt .i64 ((nth x0.2.t 2))).bind fun x5 =>
    (asInt .i64 ((nth x0.2.t 3))).bind fun x6 =>
    (asBool ((nth x0.2.t 10))).bind fun x7 =>
    (asBool ((nth x0.2.t 11))).bind fun x8 =>
    some (.tuple [], []) := by kernel_rfl

theorem e50 (C : CallT) (r0 : List (List V)) : run1 Go.Ab.G20 Go.Ab.L20 C (.func 50) [.slice .any r0, .nilfn] [] =
  (C.p (.func 78) [.int .u64 (Go.IntKind.wrap .u64 ((r0.length : Nat) : Int))]).bind fun x0 =>
  (asInt .i64 (x0)).bind fun x1 =>
  (C.p (.func 77) [.slice .any r0, .int .i64 0, .int .i64 ((r0.length : Nat) : Int), .int .i64 x1, .nilfn]).bind fun x2 =>
  (asTuple (x2)).bind fun x3 =>
  (isNil x3).bind fun x4 =>
  some (.tuple [], []) := by kernel_rfl

theorem e48_4 (C : CallT) (r0 : List (List V)) (r1 : List (List V)) (b2 : Bool) (n3 : Int) : roundK Go.Ab.G20 Go.Ab.L20 C 48 none 4 ⟨(sp 0 26 [(0, .slice .any r0), (1, .slice .any r1), (4, .bool b2), (5, .int .i64 n3)]), []⟩ =
  cond (decide (n3 < ((r0.length : Nat) : Int))) (
   (getRow r0 n3 2).bind fun x0 =>
   (uncons x0).bind fun x1 =>
   (asInt .i64 (x1.1)).bind fun x2 =>
   (uncons x1.2).bind fun x3 =>
   (asInt .i64 (x3.1)).bind fun x4 =>
   (isNil x3.2).bind fun x5 =>
   (getRow r1 n3 2).bind fun x6 =>
   (uncons x6).bind fun x7 =>
   (asInt .i64 (x7.1)).bind fun x8 =>
   (uncons x7.2).bind fun x9 =>
   (asInt .i64 (x9.1)).bind fun x10 =>
   (isNil x9.2).bind fun x11 =>
   cond (!((x2 == x8) && ((x4 == x10) && true))) (
    some (.ret, ⟨(sp 0 26 [(0, .slice .any r0), (1, .slice .any r1), (4, .bool false), (5, .int .i64 n3)]), []⟩)) (
    some (.normal, ⟨(sp 0 26 [(0, .slice .any r0), (1, .slice .any r1), (4, .bool b2), (5, .int .i64 (Go.IntKind.wrap .i64 (n3 + 1)))]), []⟩))) (
   some ((.exit 0), ⟨(sp 0 26 [(0, .slice .any r0), (1, .slice .any r1), (4, .bool b2), (5, .int .i64 n3)]), []⟩)) := by kernel_rfl

theorem e48 (C : CallT) (r0 : List (List V)) (r1 : List (List V)) : run1 Go.Ab.G20 Go.Ab.L20 C (.func 48) [.slice .any r0, .slice .any r1] [] =
  cond (((r0.length : Nat) : Int) != ((r1.length : Nat) : Int)) (
   some (.bool false, [])) (
   (C.w (roundK Go.Ab.G20 Go.Ab.L20 C 48 none 4) ⟨(sp 0 26 [(0, .slice .any r0), (1, .slice .any r1), (4, .bool false), (5, .int .i64 0)]), []⟩).bind fun x0 =>
   match x0.1 with
   | .normal =>
     none
   | .exit x2 =>
     cond (Nat.beq x2 0) (
      (asRows ((nth x0.2.t 0))).bind fun x3 =>
      (asRows ((nth x0.2.t 1))).bind fun x4 =>
      (asBool ((nth x0.2.t 4))).bind fun x5 =>
      (asInt .i64 ((nth x0.2.t 5))).bind fun x6 =>
      some (.bool true, [])) (
      none)
   | .ret =>
     (asRows ((nth x0.2.t 0))).bind fun x7 =>
     (asRows ((nth x0.2.t 1))).bind fun x8 =>
     (asBool ((nth x0.2.t 4))).bind fun x9 =>
     (asInt .i64 ((nth x0.2.t 5))).bind fun x10 =>
     some (.bool x9, [])) := by kernel_rfl

theorem e20 (C : CallT) (r0 : List (List V)) (r1 : List (List V)) : run1 Go.Ab.G20 Go.Ab.L20 C (.func 20) [.slice .any r0, .slice .any r1] [] =
  (C.p (.func 48) [.slice .any r0, .slice .any r1]).bind fun x0 =>
  (asBool (x0)).bind fun x1 =>
  some (.bool x1, []) := by kernel_rfl

theorem e108 (C : CallT) (n0 : Int) (n1 : Int) : run1 Go.Ab.G20 Go.Ab.L20 C (.func 108) [.int .i64 n0, .int .i64 n1] [] =
  cond (n1 == 0) (
   none) (
   cond (n1 == 0) (
    none) (
    cond ((Int.tmod n0 n1) != 0) (
     cond (!((decide (n0 < 0)) == (decide (n1 < 0)))) (
      some (.int .i64 (Go.IntKind.wrap .i64 ((Go.IntKind.wrap .i64 (Int.tdiv n0 n1)) - 1)), [])) (
      some (.int .i64 (Go.IntKind.wrap .i64 (Int.tdiv n0 n1)), []))) (
     some (.int .i64 (Go.IntKind.wrap .i64 (Int.tdiv n0 n1)), [])))) := by kernel_rfl

theorem e109 (C : CallT) (n0 : Int) (n1 : Int) : run1 Go.Ab.G20 Go.Ab.L20 C (.func 109) [.int .i64 n0, .int .i64 n1] [] =
  cond (n1 == 0) (
   none) (
   cond (n1 == 0) (
    none) (
    cond ((Int.tmod n0 n1) != 0) (
     cond ((decide (n0 < 0)) == (decide (n1 < 0))) (
      some (.int .i64 (Go.IntKind.wrap .i64 ((Go.IntKind.wrap .i64 (Int.tdiv n0 n1)) + 1)), [])) (
      some (.int .i64 (Go.IntKind.wrap .i64 (Int.tdiv n0 n1)), []))) (
     some (.int .i64 (Go.IntKind.wrap .i64 (Int.tdiv n0 n1)), [])))) := by kernel_rfl

theorem e102 (C : CallT) (n0 : Int) (n1 : Int) : run1 Go.Ab.G20 Go.Ab.L20 C (.func 102) [.int .i64 n0, .int .i64 n1] [] =
  (C.p (.func 108) [.int .i64 (Go.IntKind.wrap .i64 (n0 * n1)), .int .i64 65536]).bind fun x0 =>
  (asInt .i64 (x0)).bind fun x1 =>
  (C.p (.func 109) [.int .i64 (Go.IntKind.wrap .i64 (n0 * n1)), .int .i64 65536]).bind fun x2 =>
  (asInt .i64 (x2)).bind fun x3 =>
  some (.tuple [.int .i64 x1, .int .i64 x3], []) := by kernel_rfl

theorem e80 (C : CallT) (r0 : List (List V)) (r1 : List (List V)) (n2 : Int) : run1 Go.Ab.G20 Go.Ab.L20 C (.func 80) [.slice .any r0, .slice .any r1, .int .i64 n2] [] =
  (C.p (.func 27) [.slice .any r0, .slice .any r1]).bind fun x0 =>
  (asCells (x0)).bind fun x1 =>
  (uncons x1).bind fun x2 =>
  (asInt .i64 (x2.1)).bind fun x3 =>
  (uncons x2.2).bind fun x4 =>
  (asInt .i64 (x4.1)).bind fun x5 =>
  (isNil x4.2).bind fun x6 =>
  (C.p (.func 102) [.int .i64 n2, .int .i64 n2]).bind fun x7 =>
  (asTuple (x7)).bind fun x8 =>
  (uncons x8).bind fun x9 =>
  (asInt .i64 (x9.1)).bind fun x10 =>
  (uncons x9.2).bind fun x11 =>
  (asInt .i64 (x11.1)).bind fun x12 =>
  (isNil x11.2).bind fun x13 =>
  (C.p (.func 26) [.agg [.int .i64 x3, .int .i64 x5]]).bind fun x14 =>
  (asBool (x14)).bind fun x15 =>
  cond (!x15) (
   some (.bool (decide (x3 > x12)), [])) (
   some (.bool false, [])) := by kernel_rfl

theorem e53_2 (C : CallT) (r0 : List (List V)) (r1 : List (List V)) (n2 : Int) (b3 : Bool) (n4 : Int) : roundK Go.Ab.G20 Go.Ab.L20 C 53 none 2 ⟨(sp 0 62 [(0, .slice .any r0), (1, .slice .any r1), (2, .int .i64 n2), (6, .bool b3), (7, .int .i64 n4)]), []⟩ =
  cond (decide (n4 < ((r0.length : Nat) : Int))) (
   (getRow r0 n4 2).bind fun x0 =>
   (uncons x0).bind fun x1 =>
   (asInt .i64 (x1.1)).bind fun x2 =>
   (uncons x1.2).bind fun x3 =>
   (asInt .i64 (x3.1)).bind fun x4 =>
   (isNil x3.2).bind fun x5 =>
   (C.p (.func 26) [.agg [.int .i64 x2, .int .i64 x4]]).bind fun x6 =>
   (asBool (x6)).bind fun x7 =>
   cond (!x7) (
    (getRow r1 n4 2).bind fun x8 =>
    (uncons x8).bind fun x9 =>
    (asInt .i64 (x9.1)).bind fun x10 =>
    (uncons x9.2).bind fun x11 =>
    (asInt .i64 (x11.1)).bind fun x12 =>
    (isNil x11.2).bind fun x13 =>
    (C.p (.func 26) [.agg [.int .i64 x10, .int .i64 x12]]).bind fun x14 =>
    (asBool (x14)).bind fun x15 =>
    cond (!x15) (
     (getRow r0 n4 2).bind fun x16 =>
     (uncons x16).bind fun x17 =>
     (asInt .i64 (x17.1)).bind fun x18 =>
     (uncons x17.2).bind fun x19 =>
     (asInt .i64 (x19.1)).bind fun x20 =>
     (isNil x19.2).bind fun x21 =>
     (getRow r1 n4 2).bind fun x22 =>
     (uncons x22).bind fun x23 =>
     (asInt .i64 (x23.1)).bind fun x24 =>
     (uncons x23.2).bind fun x25 =>
     (asInt .i64 (x25.1)).bind fun x26 =>
     (isNil x25.2).bind fun x27 =>
     cond (decide ((Go.IntKind.wrap .i64 (x18 - x26)) > n2)) (
      some (.ret, ⟨(sp 0 62 [(0, .slice .any r0), (1, .slice .any r1), (2, .int .i64 n2), (6, .bool true), (7, .int .i64 n4)]), []⟩)) (
      (getRow r1 n4 2).bind fun x28 =>
      (uncons x28).bind fun x29 =>
      (asInt .i64 (x29.1)).bind fun x30 =>
      (uncons x29.2).bind fun x31 =>
      (asInt .i64 (x31.1)).bind fun x32 =>
      (isNil x31.2).bind fun x33 =>
      (getRow r0 n4 2).bind fun x34 =>
      (uncons x34).bind fun x35 =>
      (asInt .i64 (x35.1)).bind fun x36 =>
      (uncons x35.2).bind fun x37 =>
      (asInt .i64 (x37.1)).bind fun x38 =>
      (isNil x37.2).bind fun x39 =>
      cond (decide ((Go.IntKind.wrap .i64 (x30 - x38)) > n2)) (
       some (.ret, ⟨(sp 0 62 [(0, .slice .any r0), (1, .slice .any r1), (2, .int .i64 n2), (6, .bool true), (7, .int .i64 n4)]), []⟩)) (
       some (.normal, ⟨(sp 0 62 [(0, .slice .any r0), (1, .slice .any r1), (2, .int .i64 n2), (6, .bool b3), (7, .int .i64 (Go.IntKind.wrap .i64 (n4 + 1)))]), []⟩)))) (
     some (.normal, ⟨(sp 0 62 [(0, .slice .any r0), (1, .slice .any r1), (2, .int .i64 n2), (6, .bool b3), (7, .int .i64 (Go.IntKind.wrap .i64 (n4 + 1)))]), []⟩))) (
    some (.normal, ⟨(sp 0 62 [(0, .slice .any r0), (1, .slice .any r1), (2, .int .i64 n2), (6, .bool b3), (7, .int .i64 (Go.IntKind.wrap .i64 (n4 + 1)))]), []⟩))) (
   some ((.exit 0), ⟨(sp 0 62 [(0, .slice .any r0), (1, .slice .any r1), (2, .int .i64 n2), (6, .bool b3), (7, .int .i64 n4)]), []⟩)) := by kernel_rfl

theorem e53 (C : CallT) (r0 : List (List V)) (r1 : List (List V)) (n2 : Int) : run1 Go.Ab.G20 Go.Ab.L20 C (.func 53) [.slice .any r0, .slice .any r1, .int .i64 n2] [] =
  (C.w (roundK Go.Ab.G20 Go.Ab.L20 C 53 none 2) ⟨(sp 0 62 [(0, .slice .any r0), (1, .slice .any r1), (2, .int .i64 n2), (6, .bool false), (7, .int .i64 0)]), []⟩).bind fun x0 =>
  match x0.1 with
  | .normal =>
    none
  | .exit x2 =>
    cond (Nat.beq x2 0) (
     (asRows ((nth x0.2.t 0))).bind fun x3 =>
     (asRows ((nth x0.2.t 1))).bind fun x4 =>
     (asInt .i64 ((nth x0.2.t 2))).bind fun x5 =>
     (asBool ((nth x0.2.t 6))).bind fun x6 =>
     (asInt .i64 ((nth x0.2.t 7))).bind fun x7 =>
     (C.p (.func 80) [.slice .any x3, .slice .any x4, .int .i64 x5]).bind fun x8 =>
     (asBool (x8)).bind fun x9 =>
     some (.bool x9, [])) (
     none)
  | .ret =>
    (asRows ((nth x0.2.t 0))).bind fun x10 =>
    (asRows ((nth x0.2.t 1))).bind fun x11 =>
    (asInt .i64 ((nth x0.2.t 2))).bind fun x12 =>
    (asBool ((nth x0.2.t 6))).bind fun x13 =>
    (asInt .i64 ((nth x0.2.t 7))).bind fun x14 =>
    some (.bool x13, []) := by kernel_rfl

theorem e81 (C : CallT) (n0 : Int) (n1 : Int) (n2 : Int) (n3 : Int) : run1 Go.Ab.G20 Go.Ab.L20 C (.func 81) [.agg [.int .i64 n0, .int .i64 n1], .agg [.int .i64 n2, .int .i64 n3]] [] =
  some (.agg [.int .i64 (if n2 < n0 then n2 else n0), .int .i64 (if n3 > n1 then n3 else n1)], []) := by kernel_rfl

theorem e54_3 (C : CallT) (r0 : List (List V)) (r1 : List (List V)) (n2 : Int) (n3 : Int) (b4 : Bool) (n5 : Int) : roundK Go.Ab.G20 Go.Ab.L20 C 54 none 3 ⟨(sp 0 63 [(0, .slice .any r1), (3, .box [.int .i64 n2, .int .i64 n3]), (5, .arr 0 r0.length 2), (6, .bool b4), (7, .int .i64 n5)]), [.arr true 2 r0]⟩ =
  cond (decide (n5 < ((r1.length : Nat) : Int))) (
   (getRow r1 n5 2).bind fun x0 =>
   (uncons x0).bind fun x1 =>
   (asInt .i64 (x1.1)).bind fun x2 =>
   (uncons x1.2).bind fun x3 =>
   (asInt .i64 (x3.1)).bind fun x4 =>
   (isNil x3.2).bind fun x5 =>
   (C.p (.func 23) [.agg [.int .i64 x2, .int .i64 x4], .agg [.int .i64 n2, .int .i64 n3]]).bind fun x6 =>
   (asTuple (x6)).bind fun x7 =>
   (uncons x7).bind fun x8 =>
   (asCells (x8.1)).bind fun x9 =>
   (uncons x9).bind fun x10 =>
   (asInt .i64 (x10.1)).bind fun x11 =>
   (uncons x10.2).bind fun x12 =>
   (asInt .i64 (x12.1)).bind fun x13 =>
   (isNil x12.2).bind fun x14 =>
   (uncons x8.2).bind fun x15 =>
   (asBool (x15.1)).bind fun x16 =>
   (isNil x15.2).bind fun x17 =>
   cond x16 (
    (getRow r1 n5 2).bind fun x42 =>
    (uncons x42).bind fun x43 =>
    (asInt .i64 (x43.1)).bind fun x44 =>
    (uncons x43.2).bind fun x45 =>
    (asInt .i64 (x45.1)).bind fun x46 =>
    (isNil x45.2).bind fun x47 =>
    (C.p (.func 81) [.agg [.int .i64 x44, .int .i64 x46], .agg [.int .i64 n2, .int .i64 n3]]).bind fun x48 =>
    (asCells (x48)).bind fun x49 =>
    (uncons x49).bind fun x50 =>
    (asInt .i64 (x50.1)).bind fun x51 =>
    (uncons x50.2).bind fun x52 =>
    (asInt .i64 (x52.1)).bind fun x53 =>
    (isNil x52.2).bind fun x54 =>
    some (.normal, ⟨(sp 0 63 [(0, .slice .any r1), (3, .box [.int .i64 x51, .int .i64 x53]), (5, .arr 0 r0.length 2), (6, .bool b4), (7, .int .i64 (Go.IntKind.wrap .i64 (n5 + 1)))]), [.arr true 2 r0]⟩)) (
    cond (!b4) (
     (getRow r1 n5 2).bind fun x24 =>
     (uncons x24).bind fun x25 =>
     (asInt .i64 (x25.1)).bind fun x26 =>
     (uncons x25.2).bind fun x27 =>
     (asInt .i64 (x27.1)).bind fun x28 =>
     (isNil x27.2).bind fun x29 =>
     cond (decide (x26 > n3)) (
      cond (decide (r0.length = r0.length)) (
       cond (decide (((r0.length + 1) * 16) ≤ room)) (
        (getRow r1 n5 2).bind fun x36 =>
        (uncons x36).bind fun x37 =>
        (asInt .i64 (x37.1)).bind fun x38 =>
        (uncons x37.2).bind fun x39 =>
        (asInt .i64 (x39.1)).bind fun x40 =>
        (isNil x39.2).bind fun x41 =>
        cond (decide ((r0.length + 1) = (List.append r0 [[.int .i64 n2, .int .i64 n3]]).length)) (
         cond (decide ((((List.append r0 [[.int .i64 n2, .int .i64 n3]]).length + 1) * 16) ≤ room)) (
          some (.normal, ⟨(sp 0 63 [(0, .slice .any r1), (3, .box [.int .i64 n2, .int .i64 n3]), (5, .arr 0 ((r0.length + 1) + 1) 2), (6, .bool true), (7, .int .i64 (Go.IntKind.wrap .i64 (n5 + 1)))]), [.arr true 2 (List.append (List.append r0 [[.int .i64 n2, .int .i64 n3]]) [[.int .i64 x38, .int .i64 x40]])]⟩)) (
          none)) (
         none)) (
        none)) (
       none)) (
      (getRow r1 n5 2).bind fun x30 =>
      (uncons x30).bind fun x31 =>
      (asInt .i64 (x31.1)).bind fun x32 =>
      (uncons x31.2).bind fun x33 =>
      (asInt .i64 (x33.1)).bind fun x34 =>
      (isNil x33.2).bind fun x35 =>
      cond (decide (r0.length = r0.length)) (
       cond (decide (((r0.length + 1) * 16) ≤ room)) (
        some (.normal, ⟨(sp 0 63 [(0, .slice .any r1), (3, .box [.int .i64 n2, .int .i64 n3]), (5, .arr 0 (r0.length + 1) 2), (6, .bool b4), (7, .int .i64 (Go.IntKind.wrap .i64 (n5 + 1)))]), [.arr true 2 (List.append r0 [[.int .i64 x32, .int .i64 x34]])]⟩)) (
        none)) (
       none))) (
     (getRow r1 n5 2).bind fun x18 =>
     (uncons x18).bind fun x19 =>
     (asInt .i64 (x19.1)).bind fun x20 =>
     (uncons x19.2).bind fun x21 =>
     (asInt .i64 (x21.1)).bind fun x22 =>
     (isNil x21.2).bind fun x23 =>
     cond (decide (r0.length = r0.length)) (
      cond (decide (((r0.length + 1) * 16) ≤ room)) (
       some (.normal, ⟨(sp 0 63 [(0, .slice .any r1), (3, .box [.int .i64 n2, .int .i64 n3]), (5, .arr 0 (r0.length + 1) 2), (6, .bool b4), (7, .int .i64 (Go.IntKind.wrap .i64 (n5 + 1)))]), [.arr true 2 (List.append r0 [[.int .i64 x20, .int .i64 x22]])]⟩)) (
       none)) (
      none)))) (
   some ((.exit 0), ⟨(sp 0 63 [(0, .slice .any r1), (3, .box [.int .i64 n2, .int .i64 n3]), (5, .arr 0 r0.length 2), (6, .bool b4), (7, .int .i64 n5)]), [.arr true 2 r0]⟩)) := by kernel_rfl

theorem e54 (C : CallT) (r0 : List (List V)) (n1 : Int) (n2 : Int) : run1 Go.Ab.G20 Go.Ab.L20 C (.func 54) [.slice .any r0, .agg [.int .i64 n1, .int .i64 n2]] [] =
  (C.w (roundK Go.Ab.G20 Go.Ab.L20 C 54 none 3) ⟨(sp 0 63 [(0, .slice .any r0), (3, .box [.int .i64 n1, .int .i64 n2]), (5, .arr 0 0 2), (6, .bool false), (7, .int .i64 0)]), [.arr true 2 []]⟩).bind fun x0 =>
  match x0.1 with
  | .normal =>
    none
  | .exit x2 =>
    cond (Nat.beq x2 0) (
     (asRows ((nth x0.2.t 0))).bind fun x3 =>
     (asBox ((nth x0.2.t 3))).bind fun x4 =>
     (uncons x4).bind fun x5 =>
     (asInt .i64 (x5.1)).bind fun x6 =>
     (uncons x5.2).bind fun x7 =>
     (asInt .i64 (x7.1)).bind fun x8 =>
     (isNil x7.2).bind fun x9 =>
     (asArr 0 2 ((nth x0.2.t 5))).bind fun x10 =>
     (asBool ((nth x0.2.t 6))).bind fun x11 =>
     (asInt .i64 ((nth x0.2.t 7))).bind fun x12 =>
     (unconsO x0.2.h).bind fun x13 =>
     (asObArr true 2 x13.1).bind fun x14 =>
     cond (!x11) (
      cond (decide (x10 = x14.length)) (
       cond (decide (((x14.length + 1) * 16) ≤ room)) (
        (arrRows [.arr true 2 (List.append x14 [[.int .i64 x6, .int .i64 x8]])] 0 (x10 + 1)).bind fun x16 =>
        some (.slice .any x16, [.arr false 2 (List.append x14 [[.int .i64 x6, .int .i64 x8]])])) (
        none)) (
       none)) (
      (arrRows [.arr true 2 x14] 0 x10).bind fun x15 =>
      some (.slice .any x15, [.arr false 2 x14]))) (
     none)
  | .ret =>
    none := by kernel_rfl

theorem e22_6 (C : CallT) (r0 : List (List V)) (r1 : List (List V)) (n2 : Int) (n3 : Int) (r4 : List (List V)) (n5 : Int) (n6 : Int) : roundK Go.Ab.G20 Go.Ab.L20 C 22 none 6 ⟨(sp 0 66 [(0, .slice .any r0), (1, .slice .any r1), (5, .box [.int .i64 n2, .int .i64 n3]), (7, .slice .any r4), (8, .int .i64 n5), (9, .int .i64 n6)]), []⟩ =
  cond (decide (n6 < ((r1.length : Nat) : Int))) (
   (getRow r0 n5 6).bind fun x0 =>
   (uncons x0).bind fun x1 =>
   (asInt .i64 (x1.1)).bind fun x2 =>
   (uncons x1.2).bind fun x3 =>
   (asInt .i64 (x3.1)).bind fun x4 =>
   (uncons x3.2).bind fun x5 =>
   (asRows (x5.1)).bind fun x6 =>
   (uncons x5.2).bind fun x7 =>
   (asRows (x7.1)).bind fun x8 =>
   (uncons x7.2).bind fun x9 =>
   (asRows (x9.1)).bind fun x10 =>
   (uncons x9.2).bind fun x11 =>
   (asRows (x11.1)).bind fun x12 =>
   (isNil x11.2).bind fun x13 =>
   (C.p (.func 24) [.agg [.int .i64 x2, .int .i64 x4, .slice .any x6, .slice .any x8, .slice .any x10, .slice .any x12]]).bind fun x14 =>
   (asCells (x14)).bind fun x15 =>
   (uncons x15).bind fun x16 =>
   (asInt .i64 (x16.1)).bind fun x17 =>
   (uncons x16.2).bind fun x18 =>
   (asInt .i64 (x18.1)).bind fun x19 =>
   (isNil x18.2).bind fun x20 =>
   (getRow r1 n6 6).bind fun x21 =>
   (uncons x21).bind fun x22 =>
   (asInt .i64 (x22.1)).bind fun x23 =>
   (uncons x22.2).bind fun x24 =>
   (asInt .i64 (x24.1)).bind fun x25 =>
   (uncons x24.2).bind fun x26 =>
   (asRows (x26.1)).bind fun x27 =>
   (uncons x26.2).bind fun x28 =>
   (asRows (x28.1)).bind fun x29 =>
   (uncons x28.2).bind fun x30 =>
   (asRows (x30.1)).bind fun x31 =>
   (uncons x30.2).bind fun x32 =>
   (asRows (x32.1)).bind fun x33 =>
   (isNil x32.2).bind fun x34 =>
   (C.p (.func 24) [.agg [.int .i64 x23, .int .i64 x25, .slice .any x27, .slice .any x29, .slice .any x31, .slice .any x33]]).bind fun x35 =>
   (asCells (x35)).bind fun x36 =>
   (uncons x36).bind fun x37 =>
   (asInt .i64 (x37.1)).bind fun x38 =>
   (uncons x37.2).bind fun x39 =>
   (asInt .i64 (x39.1)).bind fun x40 =>
   (isNil x39.2).bind fun x41 =>
   (C.p (.func 23) [.agg [.int .i64 x17, .int .i64 x19], .agg [.int .i64 x38, .int .i64 x40]]).bind fun x42 =>
   (asTuple (x42)).bind fun x43 =>
   (uncons x43).bind fun x44 =>
   (asCells (x44.1)).bind fun x45 =>
   (uncons x45).bind fun x46 =>
   (asInt .i64 (x46.1)).bind fun x47 =>
   (uncons x46.2).bind fun x48 =>
   (asInt .i64 (x48.1)).bind fun x49 =>
   (isNil x48.2).bind fun x50 =>
   (uncons x44.2).bind fun x51 =>
   (asBool (x51.1)).bind fun x52 =>
   (isNil x51.2).bind fun x53 =>
   cond x52 (
    (getRow r0 n5 6).bind fun x54 =>
    (uncons x54).bind fun x55 =>
    (asInt .i64 (x55.1)).bind fun x56 =>
    (uncons x55.2).bind fun x57 =>
    (asInt .i64 (x57.1)).bind fun x58 =>
    (uncons x57.2).bind fun x59 =>
    (asRows (x59.1)).bind fun x60 =>
    (uncons x59.2).bind fun x61 =>
    (asRows (x61.1)).bind fun x62 =>
    (uncons x61.2).bind fun x63 =>
    (asRows (x63.1)).bind fun x64 =>
    (uncons x63.2).bind fun x65 =>
    (asRows (x65.1)).bind fun x66 =>
    (isNil x65.2).bind fun x67 =>
    cond (decide (0 ≤ n2)) (
     cond (decide (n2.toNat ≤ x64.length)) (
      (getRow r1 n6 6).bind fun x68 =>
      (uncons x68).bind fun x69 =>
      (asInt .i64 (x69.1)).bind fun x70 =>
      (uncons x69.2).bind fun x71 =>
      (asInt .i64 (x71.1)).bind fun x72 =>
      (uncons x71.2).bind fun x73 =>
      (asRows (x73.1)).bind fun x74 =>
      (uncons x73.2).bind fun x75 =>
      (asRows (x75.1)).bind fun x76 =>
      (uncons x75.2).bind fun x77 =>
      (asRows (x77.1)).bind fun x78 =>
      (uncons x77.2).bind fun x79 =>
      (asRows (x79.1)).bind fun x80 =>
      (isNil x79.2).bind fun x81 =>
      cond (decide (0 ≤ n2)) (
       cond (decide (n2.toNat ≤ x78.length)) (
        (C.p (.func 53) [.slice .any ((x64.take n2.toNat).drop 0), .slice .any ((x78.take n2.toNat).drop 0), .int .i64 n3]).bind fun x82 =>
        (asBool (x82)).bind fun x83 =>
        cond (!x83) (
         (C.p (.func 54) [.slice .any r4, .agg [.int .i64 x47, .int .i64 x49]]).bind fun x84 =>
         (asRows (x84)).bind fun x85 =>
         some (.normal, ⟨(sp 0 66 [(0, .slice .any r0), (1, .slice .any r1), (5, .box [.int .i64 n2, .int .i64 n3]), (7, .slice .any x85), (8, .int .i64 n5), (9, .int .i64 (Go.IntKind.wrap .i64 (n6 + 1)))]), []⟩)) (
         some (.normal, ⟨(sp 0 66 [(0, .slice .any r0), (1, .slice .any r1), (5, .box [.int .i64 n2, .int .i64 n3]), (7, .slice .any r4), (8, .int .i64 n5), (9, .int .i64 (Go.IntKind.wrap .i64 (n6 + 1)))]), []⟩))) (
        none)) (
       none)) (
      none)) (
     none)) (
    some (.normal, ⟨(sp 0 66 [(0, .slice .any r0), (1, .slice .any r1), (5, .box [.int .i64 n2, .int .i64 n3]), (7, .slice .any r4), (8, .int .i64 n5), (9, .int .i64 (Go.IntKind.wrap .i64 (n6 + 1)))]), []⟩))) (
   some ((.exit 2), ⟨(sp 0 66 [(0, .slice .any r0), (1, .slice .any r1), (5, .box [.int .i64 n2, .int .i64 n3]), (7, .slice .any r4), (8, .int .i64 n5), (9, .int .i64 n6)]), []⟩)) := by kernel_rfl

theorem e22_3 (C : CallT) (r0 : List (List V)) (r1 : List (List V)) (n2 : Int) (n3 : Int) (r4 : List (List V)) (n5 : Int) : roundK Go.Ab.G20 Go.Ab.L20 C 22 none 3 ⟨(sp 0 66 [(0, .slice .any r0), (1, .slice .any r1), (5, .box [.int .i64 n2, .int .i64 n3]), (7, .slice .any r4), (8, .int .i64 n5)]), []⟩ =
  cond (decide (n5 < ((r0.length : Nat) : Int))) (
   (C.w (roundK Go.Ab.G20 Go.Ab.L20 C 22 none 6) ⟨(sp 0 66 [(0, .slice .any r0), (1, .slice .any r1), (5, .box [.int .i64 n2, .int .i64 n3]), (7, .slice .any r4), (8, .int .i64 n5), (9, .int .i64 0)]), []⟩).bind fun x0 =>
   match x0.1 with
   | .normal =>
     none
   | .exit x2 =>
     cond (Nat.beq x2 2) (
      (asRows ((nth x0.2.t 0))).bind fun x3 =>
      (asRows ((nth x0.2.t 1))).bind fun x4 =>
      (asBox ((nth x0.2.t 5))).bind fun x5 =>
      (uncons x5).bind fun x6 =>
      (asInt .i64 (x6.1)).bind fun x7 =>
      (uncons x6.2).bind fun x8 =>
      (asInt .i64 (x8.1)).bind fun x9 =>
      (isNil x8.2).bind fun x10 =>
      (asRows ((nth x0.2.t 7))).bind fun x11 =>
      (asInt .i64 ((nth x0.2.t 8))).bind fun x12 =>
      (asInt .i64 ((nth x0.2.t 9))).bind fun x13 =>
      some (.normal, ⟨(sp 0 66 [(0, .slice .any x3), (1, .slice .any x4), (5, .box [.int .i64 x7, .int .i64 x9]), (7, .slice .any x11), (8, .int .i64 (Go.IntKind.wrap .i64 (x12 + 1)))]), []⟩)) (
      none)
   | .ret =>
     none) (
   some ((.exit 0), ⟨(sp 0 66 [(0, .slice .any r0), (1, .slice .any r1), (5, .box [.int .i64 n2, .int .i64 n3]), (7, .slice .any r4), (8, .int .i64 n5)]), []⟩)) := by kernel_rfl

theorem e22 (C : CallT) (r0 : List (List V)) (r1 : List (List V)) (n2 : Int) (n3 : Int) : run1 Go.Ab.G20 Go.Ab.L20 C (.func 22) [.slice .any r0, .slice .any r1, .agg [.int .i64 n2, .int .i64 n3]] [] =
  (C.w (roundK Go.Ab.G20 Go.Ab.L20 C 22 none 3) ⟨(sp 0 66 [(0, .slice .any r0), (1, .slice .any r1), (5, .box [.int .i64 n2, .int .i64 n3]), (7, .slice .any []), (8, .int .i64 0)]), []⟩).bind fun x0 =>
  match x0.1 with
  | .normal =>
    none
  | .exit x2 =>
    cond (Nat.beq x2 0) (
     (asRows ((nth x0.2.t 0))).bind fun x3 =>
     (asRows ((nth x0.2.t 1))).bind fun x4 =>
     (asBox ((nth x0.2.t 5))).bind fun x5 =>
     (uncons x5).bind fun x6 =>
     (asInt .i64 (x6.1)).bind fun x7 =>
     (uncons x6.2).bind fun x8 =>
     (asInt .i64 (x8.1)).bind fun x9 =>
     (isNil x8.2).bind fun x10 =>
     (asRows ((nth x0.2.t 7))).bind fun x11 =>
     (asInt .i64 ((nth x0.2.t 8))).bind fun x12 =>
     some (.slice .any x11, [])) (
     none)
  | .ret =>
    none := by kernel_rfl

theorem e19 (C : CallT) (r0 : List (List V)) (r1 : List (List V)) (n2 : Int) (n3 : Int) : run1 Go.Ab.G20 Go.Ab.L20 C (.func 19) [.slice .any r0, .slice .any r1, .agg [.int .i64 n2, .int .i64 n3]] [] =
  (C.p (.func 22) [.slice .any r0, .slice .any r1, .agg [.int .i64 n2, .int .i64 n3]]).bind fun x0 =>
  (asRows (x0)).bind fun x1 =>
  cond (((x1.length : Nat) : Int) == 0) (
   some (.int .i64 1, [])) (
   (C.p (.func 16) [.slice .any r0, .slice .any r1, .int .i64 n2]).bind fun x2 =>
   (asTuple (x2)).bind fun x3 =>
   (uncons x3).bind fun x4 =>
   (asCells (x4.1)).bind fun x5 =>
   (uncons x5).bind fun x6 =>
   (asInt .i64 (x6.1)).bind fun x7 =>
   (uncons x6.2).bind fun x8 =>
   (asInt .i64 (x8.1)).bind fun x9 =>
   (isNil x8.2).bind fun x10 =>
   (uncons x4.2).bind fun x11 =>
   (asBool (x11.1)).bind fun x12 =>
   (isNil x11.2).bind fun x13 =>
   (C.p (.func 26) [.agg [.int .i64 x7, .int .i64 x9]]).bind fun x14 =>
   (asBool (x14)).bind fun x15 =>
   cond (!x15) (
    (C.p (.func 47) [.int .i64 (Go.IntKind.wrap .i64 (n3 * n3)), .int .i64 65536]).bind fun x16 =>
    (asInt .i64 (x16)).bind fun x17 =>
    cond (decide (x9 < x17)) (
     some (.int .i64 (-1), [])) (
     some (.int .i64 0, []))) (
    some (.int .i64 0, []))) := by kernel_rfl

theorem e89 (C : CallT) (r0 : List (List V)) (r1 : List (List V)) (n2 : Int) : run1 Go.Ab.G20 Go.Ab.L20 C (.func 89) [.slice .any r0, .slice .any r1, .int .i64 n2] [] =
  (C.p (.func 41) [.slice .any r0, .slice .any r1]).bind fun x0 =>
  (asCells (x0)).bind fun x1 =>
  (uncons x1).bind fun x2 =>
  (asInt .i64 (x2.1)).bind fun x3 =>
  (uncons x2.2).bind fun x4 =>
  (asInt .i64 (x4.1)).bind fun x5 =>
  (isNil x4.2).bind fun x6 =>
  (C.p (.func 45) [.int .i64 n2, .int .i64 n2]).bind fun x7 =>
  (asTuple (x7)).bind fun x8 =>
  (uncons x8).bind fun x9 =>
  (asInt .i64 (x9.1)).bind fun x10 =>
  (uncons x9.2).bind fun x11 =>
  (asInt .i64 (x11.1)).bind fun x12 =>
  (isNil x11.2).bind fun x13 =>
  (C.p (.func 46) [.agg [.int .i64 x3, .int .i64 x5]]).bind fun x14 =>
  (asBool (x14)).bind fun x15 =>
  cond (!x15) (
   some (.bool (decide (x3 > x12)), [])) (
   some (.bool false, [])) := by kernel_rfl

theorem e74_2 (C : CallT) (r0 : List (List V)) (r1 : List (List V)) (n2 : Int) (b3 : Bool) (r4 : List (List V)) (n5 : Int) (n6 : Int) : roundK Go.Ab.G20 Go.Ab.L20 C 74 none 2 ⟨(sp 0 49 [(0, .slice .any r0), (1, .slice .any r1), (2, .int .i64 n2), (6, .bool b3), (10, .slice .any r4), (11, .int .i64 n5), (12, .int .i64 n6)]), []⟩ =
  cond (decide (n6 < n5)) (
   (getRow r4 n6 2).bind fun x0 =>
   (uncons x0).bind fun x1 =>
   (asInt .i64 (x1.1)).bind fun x2 =>
   (uncons x1.2).bind fun x3 =>
   (asInt .i64 (x3.1)).bind fun x4 =>
   (isNil x3.2).bind fun x5 =>
   (getRow r1 n6 2).bind fun x6 =>
   (uncons x6).bind fun x7 =>
   (asInt .i64 (x7.1)).bind fun x8 =>
   (uncons x7.2).bind fun x9 =>
   (asInt .i64 (x9.1)).bind fun x10 =>
   (isNil x9.2).bind fun x11 =>
   (C.p (.func 46) [.agg [.int .i64 x2, .int .i64 x4]]).bind fun x12 =>
   (asBool (x12)).bind fun x13 =>
   cond (!x13) (
    (C.p (.func 46) [.agg [.int .i64 x8, .int .i64 x10]]).bind fun x14 =>
    (asBool (x14)).bind fun x15 =>
    cond (!x15) (
     cond (decide ((if (Go.IntKind.wrap .i64 (x8 - x4)) > (Go.IntKind.wrap .i64 (x2 - x10)) then (Go.IntKind.wrap .i64 (x8 - x4)) else (Go.IntKind.wrap .i64 (x2 - x10))) > n2)) (
      some (.ret, ⟨(sp 0 49 [(0, .slice .any r0), (1, .slice .any r1), (2, .int .i64 n2), (6, .bool true), (10, .slice .any r4), (11, .int .i64 n5), (12, .int .i64 n6)]), []⟩)) (
      some (.normal, ⟨(sp 0 49 [(0, .slice .any r0), (1, .slice .any r1), (2, .int .i64 n2), (6, .bool b3), (10, .slice .any r4), (11, .int .i64 n5), (12, .int .i64 (Go.IntKind.wrap .i64 (n6 + 1)))]), []⟩))) (
     some (.normal, ⟨(sp 0 49 [(0, .slice .any r0), (1, .slice .any r1), (2, .int .i64 n2), (6, .bool b3), (10, .slice .any r4), (11, .int .i64 n5), (12, .int .i64 (Go.IntKind.wrap .i64 (n6 + 1)))]), []⟩))) (
    some (.normal, ⟨(sp 0 49 [(0, .slice .any r0), (1, .slice .any r1), (2, .int .i64 n2), (6, .bool b3), (10, .slice .any r4), (11, .int .i64 n5), (12, .int .i64 (Go.IntKind.wrap .i64 (n6 + 1)))]), []⟩))) (
   some ((.exit 0), ⟨(sp 0 49 [(0, .slice .any r0), (1, .slice .any r1), (2, .int .i64 n2), (6, .bool b3), (10, .slice .any r4), (11, .int .i64 n5), (12, .int .i64 n6)]), []⟩)) := by kernel_rfl

theorem e74 (C : CallT) (r0 : List (List V)) (r1 : List (List V)) (n2 : Int) : run1 Go.Ab.G20 Go.Ab.L20 C (.func 74) [.slice .any r0, .slice .any r1, .int .i64 n2] [] =
  (C.w (roundK Go.Ab.G20 Go.Ab.L20 C 74 none 2) ⟨(sp 0 49 [(0, .slice .any r0), (1, .slice .any r1), (2, .int .i64 n2), (6, .bool false), (10, .slice .any r0), (11, .int .i64 ((r0.length : Nat) : Int)), (12, .int .i64 0)]), []⟩).bind fun x0 =>
  match x0.1 with
  | .normal =>
    none
  | .exit x2 =>
    cond (Nat.beq x2 0) (
     (asRows ((nth x0.2.t 0))).bind fun x3 =>
     (asRows ((nth x0.2.t 1))).bind fun x4 =>
     (asInt .i64 ((nth x0.2.t 2))).bind fun x5 =>
     (asBool ((nth x0.2.t 6))).bind fun x6 =>
     (asRows ((nth x0.2.t 10))).bind fun x7 =>
     (asInt .i64 ((nth x0.2.t 11))).bind fun x8 =>
     (asInt .i64 ((nth x0.2.t 12))).bind fun x9 =>
     (C.p (.func 89) [.slice .any x3, .slice .any x4, .int .i64 x5]).bind fun x10 =>
     (asBool (x10)).bind fun x11 =>
     some (.bool x11, [])) (
     none)
  | .ret =>
    (asRows ((nth x0.2.t 0))).bind fun x12 =>
    (asRows ((nth x0.2.t 1))).bind fun x13 =>
    (asInt .i64 ((nth x0.2.t 2))).bind fun x14 =>
    (asBool ((nth x0.2.t 6))).bind fun x15 =>
    (asRows ((nth x0.2.t 10))).bind fun x16 =>
    (asInt .i64 ((nth x0.2.t 11))).bind fun x17 =>
    (asInt .i64 ((nth x0.2.t 12))).bind fun x18 =>
    some (.bool x15, []) := by kernel_rfl

theorem y18_2 (C : CallT) (r0 : List (List V)) (r1 : List (List V)) (n2 : Int) (n3 : Int) (n4 : Int) (r5 : List (List V)) (r6 : List (List V)) (n7 : Int) (n8 : Int) (r9 : List (List V)) (r10 : List (List V)) (n11 : Int) (n12 : Int) (r13 : List (List V)) (r14 : List (List V)) (n15 : Int) (n16 : Int) (r17 : List (List V)) (r18 : List (List V)) (l19 : LoopA) (n20 : Int) (n21 : Int) : run1 Go.Ab.G20 Go.Ab.L20 C (.yield 7) [.agg [.int .i64 n20, .int .i64 n21]] [.cells [.slice .any r0], .cells [.slice .any r1], .cells [.int .i64 n2, .int .i64 n3], .cells [.int .i64 n4], .cells [.slice .any r5], .cells [.slice .any r6], .cells [.int .i64 n7, .int .i64 n8], .loop ⟨.ready, none, (sp 0 41 [(0, .slice .any r9), (1, .slice .any r10), (2, .agg [.int .i64 n11, .int .i64 n12]), (3, .ptr 0 0), (4, .ptr 1 0), (5, .ptr 2 0), (6, .ptr 3 0), (11, .slice .any r13), (12, .slice .any r14), (13, .agg [.int .i64 n15, .int .i64 n16]), (14, .fn (.func 73) [] [.ptr 4 0, .ptr 5 0, .ptr 6 0])]), 18, [15], rangeAssign GP 18 2, rangeBody GP 18 2⟩, .cells [.fn (.yield 7) [] []], .cells [.slice .any r17], .cells [.slice .any r18], .loop l19] =
  (C.p (.func 15) [.slice .any r0, .slice .any r1, .int .i64 n2]).bind fun x0 =>
  (asTuple (x0)).bind fun x1 =>
  (uncons x1).bind fun x2 =>
  (asCells (x2.1)).bind fun x3 =>
  (uncons x3).bind fun x4 =>
  (asInt .i64 (x4.1)).bind fun x5 =>
  (uncons x4.2).bind fun x6 =>
  (asInt .i64 (x6.1)).bind fun x7 =>
  (isNil x6.2).bind fun x8 =>
  (uncons x2.2).bind fun x9 =>
  (asBool (x9.1)).bind fun x10 =>
  (isNil x9.2).bind fun x11 =>
  (C.p (.func 45) [.int .i64 n3, .int .i64 n3]).bind fun x12 =>
  (asTuple (x12)).bind fun x13 =>
  (uncons x13).bind fun x14 =>
  (asInt .i64 (x14.1)).bind fun x15 =>
  (uncons x14.2).bind fun x16 =>
  (asInt .i64 (x16.1)).bind fun x17 =>
  (isNil x16.2).bind fun x18 =>
  (C.p (.func 46) [.agg [.int .i64 x5, .int .i64 x7]]).bind fun x19 =>
  (asBool (x19)).bind fun x20 =>
  cond (!x20) (
   cond (decide (x7 < x15)) (
    some (.bool false, [.cells [.slice .any r0], .cells [.slice .any r1], .cells [.int .i64 n2, .int .i64 n3], .cells [.int .i64 (-1)], .cells [.slice .any r5], .cells [.slice .any r6], .cells [.int .i64 n7, .int .i64 n8], .loop ⟨.done, (some .ret), (sp 0 41 [(0, .slice .any r9), (1, .slice .any r10), (2, .agg [.int .i64 n11, .int .i64 n12]), (3, .ptr 0 0), (4, .ptr 1 0), (5, .ptr 2 0), (6, .ptr 3 0), (11, .slice .any r13), (12, .slice .any r14), (13, .agg [.int .i64 n15, .int .i64 n16]), (14, .fn (.func 73) [] [.ptr 4 0, .ptr 5 0, .ptr 6 0])]), 18, [15], rangeAssign GP 18 2, rangeBody GP 18 2⟩, .cells [.fn (.yield 7) [] []], .cells [.slice .any r17], .cells [.slice .any r18], .loop l19])) (
    some (.bool false, [.cells [.slice .any r0], .cells [.slice .any r1], .cells [.int .i64 n2, .int .i64 n3], .cells [.int .i64 0], .cells [.slice .any r5], .cells [.slice .any r6], .cells [.int .i64 n7, .int .i64 n8], .loop ⟨.done, (some .ret), (sp 0 41 [(0, .slice .any r9), (1, .slice .any r10), (2, .agg [.int .i64 n11, .int .i64 n12]), (3, .ptr 0 0), (4, .ptr 1 0), (5, .ptr 2 0), (6, .ptr 3 0), (11, .slice .any r13), (12, .slice .any r14), (13, .agg [.int .i64 n15, .int .i64 n16]), (14, .fn (.func 73) [] [.ptr 4 0, .ptr 5 0, .ptr 6 0])]), 18, [15], rangeAssign GP 18 2, rangeBody GP 18 2⟩, .cells [.fn (.yield 7) [] []], .cells [.slice .any r17], .cells [.slice .any r18], .loop l19]))) (
   some (.bool false, [.cells [.slice .any r0], .cells [.slice .any r1], .cells [.int .i64 n2, .int .i64 n3], .cells [.int .i64 0], .cells [.slice .any r5], .cells [.slice .any r6], .cells [.int .i64 n7, .int .i64 n8], .loop ⟨.done, (some .ret), (sp 0 41 [(0, .slice .any r9), (1, .slice .any r10), (2, .agg [.int .i64 n11, .int .i64 n12]), (3, .ptr 0 0), (4, .ptr 1 0), (5, .ptr 2 0), (6, .ptr 3 0), (11, .slice .any r13), (12, .slice .any r14), (13, .agg [.int .i64 n15, .int .i64 n16]), (14, .fn (.func 73) [] [.ptr 4 0, .ptr 5 0, .ptr 6 0])]), 18, [15], rangeAssign GP 18 2, rangeBody GP 18 2⟩, .cells [.fn (.yield 7) [] []], .cells [.slice .any r17], .cells [.slice .any r18], .loop l19])) := by kernel_rfl

theorem y73_3 (C : CallT) (r0 : List (List V)) (r1 : List (List V)) (n2 : Int) (n3 : Int) (n4 : Int) (r5 : List (List V)) (r6 : List (List V)) (n7 : Int) (n8 : Int) (l9 : LoopA) (r10 : List (List V)) (r11 : List (List V)) (r12 : List (List V)) (r13 : List (List V)) (n14 : Int) (n15 : Int) (r16 : List (List V)) (r17 : List (List V)) (r18 : List (List V)) (r19 : List (List V)) (n20 : Int) (n21 : Int) (r22 : List (List V)) (r23 : List (List V)) (r24 : List (List V)) (r25 : List (List V)) (n26 : Int) (n27 : Int) : run1 Go.Ab.G20 Go.Ab.L20 C (.yield 11) [.agg [.int .i64 n14, .int .i64 n15, .slice .any r16, .slice .any r17, .slice .any r18, .slice .any r19, .int .i64 n20, .int .i64 n21, .slice .any r22, .slice .any r23, .slice .any r24, .slice .any r25, .int .i64 n26, .int .i64 n27]] [.cells [.slice .any r0], .cells [.slice .any r1], .cells [.int .i64 n2, .int .i64 n3], .cells [.int .i64 n4], .cells [.slice .any r5], .cells [.slice .any r6], .cells [.int .i64 n7, .int .i64 n8], .loop l9, .cells [.fn (.yield 7) [] []], .cells [.slice .any r10], .cells [.slice .any r11], .loop ⟨.ready, none, (sp 0 33 [(0, .fn (.yield 7) [] []), (1, .ptr 4 0), (2, .ptr 5 0), (3, .ptr 6 0), (4, .ptr 8 0), (6, .slice .any r12), (7, .slice .any r13), (8, .fn (.func 66) [] [.ptr 9 0, .ptr 10 0])]), 73, [9], rangeAssign GP 73 3, rangeBody GP 73 3⟩] =
  cond (decide (0 ≤ n7)) (
   cond (decide (n7.toNat ≤ r18.length)) (
    cond (decide (0 ≤ n7)) (
     cond (decide (n7.toNat ≤ r24.length)) (
      (C.p (.func 74) [.slice .any ((r18.take n7.toNat).drop 0), .slice .any ((r24.take n7.toNat).drop 0), .int .i64 n8]).bind fun x0 =>
      (asBool (x0)).bind fun x1 =>
      cond (!x1) (
       (C.s (.yield 7) [.agg [.int .i64 n26, .int .i64 n27]] [.cells [.slice .any r0], .cells [.slice .any r1], .cells [.int .i64 n2, .int .i64 n3], .cells [.int .i64 n4], .cells [.slice .any r5], .cells [.slice .any r6], .cells [.int .i64 n7, .int .i64 n8], .loop l9, .cells [.fn (.yield 7) [] []], .cells [.slice .any r10], .cells [.slice .any r11], .loop ⟨.busy, none, (sp 0 33 [(0, .fn (.yield 7) [] []), (1, .ptr 4 0), (2, .ptr 5 0), (3, .ptr 6 0), (4, .ptr 8 0), (6, .slice .any r12), (7, .slice .any r13), (8, .fn (.func 66) [] [.ptr 9 0, .ptr 10 0])]), 73, [9], rangeAssign GP 73 3, rangeBody GP 73 3⟩]).bind fun x2 =>
       (asBool (x2.1)).bind fun x3 =>
       (unconsO x2.2).bind fun x4 =>
       (asObCells x4.1).bind fun x5 =>
       (uncons x5).bind fun x6 =>
       (asRows (x6.1)).bind fun x7 =>
       (isNil x6.2).bind fun x8 =>
       (unconsO x4.2).bind fun x9 =>
       (asObCells x9.1).bind fun x10 =>
       (uncons x10).bind fun x11 =>
       (asRows (x11.1)).bind fun x12 =>
       (isNil x11.2).bind fun x13 =>
       (unconsO x9.2).bind fun x14 =>
       (asObCells x14.1).bind fun x15 =>
       (uncons x15).bind fun x16 =>
       (asInt .i64 (x16.1)).bind fun x17 =>
       (uncons x16.2).bind fun x18 =>
       (asInt .i64 (x18.1)).bind fun x19 =>
       (isNil x18.2).bind fun x20 =>
       (unconsO x14.2).bind fun x21 =>
       (asObCells x21.1).bind fun x22 =>
       (uncons x22).bind fun x23 =>
       (asInt .i64 (x23.1)).bind fun x24 =>
       (isNil x23.2).bind fun x25 =>
       (unconsO x21.2).bind fun x26 =>
       (asObCells x26.1).bind fun x27 =>
       (uncons x27).bind fun x28 =>
       (asRows (x28.1)).bind fun x29 =>
       (isNil x28.2).bind fun x30 =>
       (unconsO x26.2).bind fun x31 =>
       (asObCells x31.1).bind fun x32 =>
       (uncons x32).bind fun x33 =>
       (asRows (x33.1)).bind fun x34 =>
       (isNil x33.2).bind fun x35 =>
       (unconsO x31.2).bind fun x36 =>
       (asObCells x36.1).bind fun x37 =>
       (uncons x37).bind fun x38 =>
       (asInt .i64 (x38.1)).bind fun x39 =>
       (uncons x38.2).bind fun x40 =>
       (asInt .i64 (x40.1)).bind fun x41 =>
       (isNil x40.2).bind fun x42 =>
       (unconsO x36.2).bind fun x43 =>
       (asLoop x43.1).bind fun x44 =>
       (unconsO x43.2).bind fun x45 =>
       (asObCells x45.1).bind fun x46 =>
       (uncons x46).bind fun x47 =>
       (asFn (.yield 7) (x47.1)).bind fun x48 =>
       (isNil x48.1).bind fun x49 =>
       (isNil x48.2).bind fun x50 =>
       (isNil x47.2).bind fun x51 =>
       (unconsO x45.2).bind fun x52 =>
       (asObCells x52.1).bind fun x53 =>
       (uncons x53).bind fun x54 =>
       (asRows (x54.1)).bind fun x55 =>
       (isNil x54.2).bind fun x56 =>
       (unconsO x52.2).bind fun x57 =>
       (asObCells x57.1).bind fun x58 =>
       (uncons x58).bind fun x59 =>
       (asRows (x59.1)).bind fun x60 =>
       (isNil x59.2).bind fun x61 =>
       (unconsO x57.2).bind fun x62 =>
       (asLoop x62.1).bind fun x63 =>
       cond (!x3) (
        (isBusy x63.st).bind fun x65 =>
        some (.bool false, [.cells [.slice .any x7], .cells [.slice .any x12], .cells [.int .i64 x17, .int .i64 x19], .cells [.int .i64 x24], .cells [.slice .any x29], .cells [.slice .any x34], .cells [.int .i64 x39, .int .i64 x41], .loop x44, .cells [.fn (.yield 7) [] []], .cells [.slice .any x55], .cells [.slice .any x60], .loop { x63 with st := .done, pend := (some .ret) }])) (
        (isBusy x63.st).bind fun x64 =>
        some (.bool true, [.cells [.slice .any x7], .cells [.slice .any x12], .cells [.int .i64 x17, .int .i64 x19], .cells [.int .i64 x24], .cells [.slice .any x29], .cells [.slice .any x34], .cells [.int .i64 x39, .int .i64 x41], .loop x44, .cells [.fn (.yield 7) [] []], .cells [.slice .any x55], .cells [.slice .any x60], .loop { x63 with st := .ready, pend := none }]))) (
       some (.bool true, [.cells [.slice .any r0], .cells [.slice .any r1], .cells [.int .i64 n2, .int .i64 n3], .cells [.int .i64 n4], .cells [.slice .any r5], .cells [.slice .any r6], .cells [.int .i64 n7, .int .i64 n8], .loop l9, .cells [.fn (.yield 7) [] []], .cells [.slice .any r10], .cells [.slice .any r11], .loop ⟨.ready, none, (sp 0 33 [(0, .fn (.yield 7) [] []), (1, .ptr 4 0), (2, .ptr 5 0), (3, .ptr 6 0), (4, .ptr 8 0), (6, .slice .any r12), (7, .slice .any r13), (8, .fn (.func 66) [] [.ptr 9 0, .ptr 10 0])]), 73, [9], rangeAssign GP 73 3, rangeBody GP 73 3⟩]))) (
      none)) (
     none)) (
    none)) (
   none) := by kernel_rfl

theorem e66_7_v1 (C : CallT) (r0 : List (List V)) (r1 : List (List V)) (n2 : Int) (n3 : Int) (n4 : Int) (r5 : List (List V)) (r6 : List (List V)) (n7 : Int) (n8 : Int) (l9 : LoopA) (r10 : List (List V)) (r11 : List (List V)) (l12 : LoopA) (n13 : Int) (n14 : Int) (n15 : Int) (r16 : List (List V)) (r17 : List (List V)) (r18 : List (List V)) (r19 : List (List V)) (r20 : List (List V)) (n21 : Int) (n22 : Int) (r23 : List (List V)) (n24 : Int) (n25 : Int) : roundK Go.Ab.G20 Go.Ab.L20 C 66 none 7 ⟨(sp 0 63 [(0, .fn (.yield 11) [] []), (2, .ptr 10 0), (4, .int .i64 n13), (6, .box [.int .i64 n14, .int .i64 n15, .slice .any r16, .slice .any r17, .slice .any r18, .slice .any r19]), (9, .slice .any r20), (10, .int .i64 n21), (11, .int .i64 n22), (33, .slice .any r23), (34, .int .i64 n24), (35, .int .i64 n25)]), [.cells [.slice .any r0], .cells [.slice .any r1], .cells [.int .i64 n2, .int .i64 n3], .cells [.int .i64 n4], .cells [.slice .any r5], .cells [.slice .any r6], .cells [.int .i64 n7, .int .i64 n8], .loop l9, .cells [.fn (.yield 7) [] []], .cells [.slice .any r10], .cells [.slice .any r11], .loop l12]⟩ =
  cond (decide (n25 < n24)) (
   (getRow r23 n25 6).bind fun x0 =>
   (uncons x0).bind fun x1 =>
   (asInt .i64 (x1.1)).bind fun x2 =>
   (uncons x1.2).bind fun x3 =>
   (asInt .i64 (x3.1)).bind fun x4 =>
   (uncons x3.2).bind fun x5 =>
   (asRows (x5.1)).bind fun x6 =>
   (uncons x5.2).bind fun x7 =>
   (asRows (x7.1)).bind fun x8 =>
   (uncons x7.2).bind fun x9 =>
   (asRows (x9.1)).bind fun x10 =>
   (uncons x9.2).bind fun x11 =>
   (asRows (x11.1)).bind fun x12 =>
   (isNil x11.2).bind fun x13 =>
   (C.p (.func 37) [.agg [.int .i64 n14, .int .i64 n15, .slice .any r16, .slice .any r17, .slice .any r18, .slice .any r19]]).bind fun x14 =>
   (asInt .i64 (x14)).bind fun x15 =>
   cond (decide (x2 > x15)) (
    some ((.exit 1), ⟨(sp 0 63 [(0, .fn (.yield 11) [] []), (2, .ptr 10 0), (4, .int .i64 n13), (6, .box [.int .i64 n14, .int .i64 n15, .slice .any r16, .slice .any r17, .slice .any r18, .slice .any r19]), (9, .slice .any r20), (10, .int .i64 n21), (11, .int .i64 n22), (33, .slice .any r23), (34, .int .i64 n24), (35, .int .i64 n25)]), [.cells [.slice .any r0], .cells [.slice .any r1], .cells [.int .i64 n2, .int .i64 n3], .cells [.int .i64 n4], .cells [.slice .any r5], .cells [.slice .any r6], .cells [.int .i64 n7, .int .i64 n8], .loop l9, .cells [.fn (.yield 7) [] []], .cells [.slice .any r10], .cells [.slice .any r11], .loop l12]⟩)) (
    (C.p (.func 37) [.agg [.int .i64 n14, .int .i64 n15, .slice .any r16, .slice .any r17, .slice .any r18, .slice .any r19]]).bind fun x16 =>
    (asInt .i64 (x16)).bind fun x17 =>
    (C.p (.func 37) [.agg [.int .i64 x2, .int .i64 x4, .slice .any x6, .slice .any x8, .slice .any x10, .slice .any x12]]).bind fun x18 =>
    (asInt .i64 (x18)).bind fun x19 =>
    (C.s (.yield 11) [.agg [.int .i64 n14, .int .i64 n15, .slice .any r16, .slice .any r17, .slice .any r18, .slice .any r19, .int .i64 x2, .int .i64 x4, .slice .any x6, .slice .any x8, .slice .any x10, .slice .any x12, .int .i64 (if x2 > n14 then x2 else n14), .int .i64 (if x19 < x17 then x19 else x17)]] [.cells [.slice .any r0], .cells [.slice .any r1], .cells [.int .i64 n2, .int .i64 n3], .cells [.int .i64 n4], .cells [.slice .any r5], .cells [.slice .any r6], .cells [.int .i64 n7, .int .i64 n8], .loop l9, .cells [.fn (.yield 7) [] []], .cells [.slice .any r10], .cells [.slice .any r11], .loop l12]).bind fun x20 =>
    (asBool (x20.1)).bind fun x21 =>
    (unconsO x20.2).bind fun x22 =>
    (asObCells x22.1).bind fun x23 =>
    (uncons x23).bind fun x24 =>
    (asRows (x24.1)).bind fun x25 =>
    (isNil x24.2).bind fun x26 =>
    (unconsO x22.2).bind fun x27 =>
    (asObCells x27.1).bind fun x28 =>
    (uncons x28).bind fun x29 =>
    (asRows (x29.1)).bind fun x30 =>
    (isNil x29.2).bind fun x31 =>
    (unconsO x27.2).bind fun x32 =>
    (asObCells x32.1).bind fun x33 =>
    (uncons x33).bind fun x34 =>
    (asInt .i64 (x34.1)).bind fun x35 =>
    (uncons x34.2).bind fun x36 =>
    (asInt .i64 (x36.1)).bind fun x37 =>
    (isNil x36.2).bind fun x38 =>
    (unconsO x32.2).bind fun x39 =>
    (asObCells x39.1).bind fun x40 =>
    (uncons x40).bind fun x41 =>
    (asInt .i64 (x41.1)).bind fun x42 =>
    (isNil x41.2).bind fun x43 =>
    (unconsO x39.2).bind fun x44 =>
    (asObCells x44.1).bind fun x45 =>
    (uncons x45).bind fun x46 =>
    (asRows (x46.1)).bind fun x47 =>
    (isNil x46.2).bind fun x48 =>
    (unconsO x44.2).bind fun x49 =>
    (asObCells x49.1).bind fun x50 =>
    (uncons x50).bind fun x51 =>
    (asRows (x51.1)).bind fun x52 =>
    (isNil x51.2).bind fun x53 =>
    (unconsO x49.2).bind fun x54 =>
    (asObCells x54.1).bind fun x55 =>
    (uncons x55).bind fun x56 =>
    (asInt .i64 (x56.1)).bind fun x57 =>
    (uncons x56.2).bind fun x58 =>
    (asInt .i64 (x58.1)).bind fun x59 =>
    (isNil x58.2).bind fun x60 =>
    (unconsO x54.2).bind fun x61 =>
    (asLoop x61.1).bind fun x62 =>
    (unconsO x61.2).bind fun x63 =>
    (asObCells x63.1).bind fun x64 =>
    (uncons x64).bind fun x65 =>
    (asFn (.yield 7) (x65.1)).bind fun x66 =>
    (isNil x66.1).bind fun x67 =>
    (isNil x66.2).bind fun x68 =>
    (isNil x65.2).bind fun x69 =>
    (unconsO x63.2).bind fun x70 =>
    (asObCells x70.1).bind fun x71 =>
    (uncons x71).bind fun x72 =>
    (asRows (x72.1)).bind fun x73 =>
    (isNil x72.2).bind fun x74 =>
    (unconsO x70.2).bind fun x75 =>
    (asObCells x75.1).bind fun x76 =>
    (uncons x76).bind fun x77 =>
    (asRows (x77.1)).bind fun x78 =>
    (isNil x77.2).bind fun x79 =>
    (unconsO x75.2).bind fun x80 =>
    (asLoop x80.1).bind fun x81 =>
    cond (!x21) (
     some (.ret, ⟨(sp 0 63 [(0, .fn (.yield 11) [] []), (2, .ptr 10 0), (4, .int .i64 n13), (6, .box [.int .i64 n14, .int .i64 n15, .slice .any r16, .slice .any r17, .slice .any r18, .slice .any r19]), (9, .slice .any r20), (10, .int .i64 n21), (11, .int .i64 n22), (33, .slice .any r23), (34, .int .i64 n24), (35, .int .i64 n25)]), [.cells [.slice .any x25], .cells [.slice .any x30], .cells [.int .i64 x35, .int .i64 x37], .cells [.int .i64 x42], .cells [.slice .any x47], .cells [.slice .any x52], .cells [.int .i64 x57, .int .i64 x59], .loop x62, .cells [.fn (.yield 7) [] []], .cells [.slice .any x73], .cells [.slice .any x78], .loop x81]⟩)) (
     some (.normal, ⟨(sp 0 63 [(0, .fn (.yield 11) [] []), (2, .ptr 10 0), (4, .int .i64 n13), (6, .box [.int .i64 n14, .int .i64 n15, .slice .any r16, .slice .any r17, .slice .any r18, .slice .any r19]), (9, .slice .any r20), (10, .int .i64 n21), (11, .int .i64 n22), (33, .slice .any r23), (34, .int .i64 n24), (35, .int .i64 (Go.IntKind.wrap .i64 (n25 + 1)))]), [.cells [.slice .any x25], .cells [.slice .any x30], .cells [.int .i64 x35, .int .i64 x37], .cells [.int .i64 x42], .cells [.slice .any x47], .cells [.slice .any x52], .cells [.int .i64 x57, .int .i64 x59], .loop x62, .cells [.fn (.yield 7) [] []], .cells [.slice .any x73], .cells [.slice .any x78], .loop x81]⟩)))) (
   some ((.exit 4), ⟨(sp 0 63 [(0, .fn (.yield 11) [] []), (2, .ptr 10 0), (4, .int .i64 n13), (6, .box [.int .i64 n14, .int .i64 n15, .slice .any r16, .slice .any r17, .slice .any r18, .slice .any r19]), (9, .slice .any r20), (10, .int .i64 n21), (11, .int .i64 n22), (33, .slice .any r23), (34, .int .i64 n24), (35, .int .i64 n25)]), [.cells [.slice .any r0], .cells [.slice .any r1], .cells [.int .i64 n2, .int .i64 n3], .cells [.int .i64 n4], .cells [.slice .any r5], .cells [.slice .any r6], .cells [.int .i64 n7, .int .i64 n8], .loop l9, .cells [.fn (.yield 7) [] []], .cells [.slice .any r10], .cells [.slice .any r11], .loop l12]⟩)) := by kernel_rfl

theorem e66_4_v1 (C : CallT) (r0 : List (List V)) (r1 : List (List V)) (n2 : Int) (n3 : Int) (n4 : Int) (r5 : List (List V)) (r6 : List (List V)) (n7 : Int) (n8 : Int) (l9 : LoopA) (r10 : List (List V)) (r11 : List (List V)) (l12 : LoopA) (n13 : Int) (n14 : Int) (n15 : Int) (r16 : List (List V)) (r17 : List (List V)) (r18 : List (List V)) (r19 : List (List V)) (r20 : List (List V)) (n21 : Int) (n22 : Int) : roundK Go.Ab.G20 Go.Ab.L20 C 66 none 4 ⟨(sp 0 63 [(0, .fn (.yield 11) [] []), (2, .ptr 10 0), (4, .int .i64 n13), (6, .box [.int .i64 n14, .int .i64 n15, .slice .any r16, .slice .any r17, .slice .any r18, .slice .any r19]), (9, .slice .any r20), (10, .int .i64 n21), (11, .int .i64 n22)]), [.cells [.slice .any r0], .cells [.slice .any r1], .cells [.int .i64 n2, .int .i64 n3], .cells [.int .i64 n4], .cells [.slice .any r5], .cells [.slice .any r6], .cells [.int .i64 n7, .int .i64 n8], .loop l9, .cells [.fn (.yield 7) [] []], .cells [.slice .any r10], .cells [.slice .any r11], .loop l12]⟩ =
  cond (decide (n13 < ((r11.length : Nat) : Int))) (
   (getRow r11 n13 6).bind fun x0 =>
   (uncons x0).bind fun x1 =>
   (asInt .i64 (x1.1)).bind fun x2 =>
   (uncons x1.2).bind fun x3 =>
   (asInt .i64 (x3.1)).bind fun x4 =>
   (uncons x3.2).bind fun x5 =>
   (asRows (x5.1)).bind fun x6 =>
   (uncons x5.2).bind fun x7 =>
   (asRows (x7.1)).bind fun x8 =>
   (uncons x7.2).bind fun x9 =>
   (asRows (x9.1)).bind fun x10 =>
   (uncons x9.2).bind fun x11 =>
   (asRows (x11.1)).bind fun x12 =>
   (isNil x11.2).bind fun x13 =>
   (C.p (.func 37) [.agg [.int .i64 x2, .int .i64 x4, .slice .any x6, .slice .any x8, .slice .any x10, .slice .any x12]]).bind fun x14 =>
   (asInt .i64 (x14)).bind fun x15 =>
   cond (decide (x15 < n14)) (
    some (.normal, ⟨(sp 0 63 [(0, .fn (.yield 11) [] []), (2, .ptr 10 0), (4, .int .i64 (Go.IntKind.wrap .i64 (n13 + 1))), (6, .box [.int .i64 n14, .int .i64 n15, .slice .any r16, .slice .any r17, .slice .any r18, .slice .any r19]), (9, .slice .any r20), (10, .int .i64 n21), (11, .int .i64 n22)]), [.cells [.slice .any r0], .cells [.slice .any r1], .cells [.int .i64 n2, .int .i64 n3], .cells [.int .i64 n4], .cells [.slice .any r5], .cells [.slice .any r6], .cells [.int .i64 n7, .int .i64 n8], .loop l9, .cells [.fn (.yield 7) [] []], .cells [.slice .any r10], .cells [.slice .any r11], .loop l12]⟩)) (
    some ((.exit 2), ⟨(sp 0 63 [(0, .fn (.yield 11) [] []), (2, .ptr 10 0), (4, .int .i64 n13), (6, .box [.int .i64 n14, .int .i64 n15, .slice .any r16, .slice .any r17, .slice .any r18, .slice .any r19]), (9, .slice .any r20), (10, .int .i64 n21), (11, .int .i64 n22)]), [.cells [.slice .any r0], .cells [.slice .any r1], .cells [.int .i64 n2, .int .i64 n3], .cells [.int .i64 n4], .cells [.slice .any r5], .cells [.slice .any r6], .cells [.int .i64 n7, .int .i64 n8], .loop l9, .cells [.fn (.yield 7) [] []], .cells [.slice .any r10], .cells [.slice .any r11], .loop l12]⟩))) (
   some ((.exit 2), ⟨(sp 0 63 [(0, .fn (.yield 11) [] []), (2, .ptr 10 0), (4, .int .i64 n13), (6, .box [.int .i64 n14, .int .i64 n15, .slice .any r16, .slice .any r17, .slice .any r18, .slice .any r19]), (9, .slice .any r20), (10, .int .i64 n21), (11, .int .i64 n22)]), [.cells [.slice .any r0], .cells [.slice .any r1], .cells [.int .i64 n2, .int .i64 n3], .cells [.int .i64 n4], .cells [.slice .any r5], .cells [.slice .any r6], .cells [.int .i64 n7, .int .i64 n8], .loop l9, .cells [.fn (.yield 7) [] []], .cells [.slice .any r10], .cells [.slice .any r11], .loop l12]⟩)) := by kernel_rfl

end Go.Ab
