/- The order of exponents with nothing told: what one call comes to, by evaluation; conditions: bytes. -/
import Derived.KernelRfl
import Derived.Test.YtpalbaaghplhnaaGreatDoorP1
import Derived.Test.YtpalbaaghplhnaaGreatDoorK1
set_option linter.unusedVariables false
set_option linter.unusedSimpArgs false
namespace Go.Ab
noncomputable def NZ : Cfg := { GZ with sp := fun _ => none }
namespace Nn
set_option maxHeartbeats 2000000
set_option maxRecDepth 100000
theorem e127 (C : CallT) (n0 : Int) : zO NZ Go.Ab.LZ C (.func 127) [.int .u8 n0] [] =
 some (.bool (n0 != n0), []) := by kernel_rfl
theorem e118 (C : CallT) (n0 : Int) (n1 : Int) : zO NZ Go.Ab.LZ C (.func 118) [.int .u8 n0, .int .u8 n1] [] =
  (C.p (.func 127) [.int .u8 n0]).bind fun x0 =>
  (asBool (x0)).bind fun x1 =>
  (C.p (.func 127) [.int .u8 n1]).bind fun x2 =>
  (asBool (x2)).bind fun x3 =>
  cond x1 (
   cond x3 (
    some (.int .i64 0, [])) (
    some (.int .i64 (-1), []))) (
   cond x3 (
    some (.int .i64 1, [])) (
    cond (decide (n0 < n1)) (
     some (.int .i64 (-1), [])) (
     cond (decide (n0 > n1)) (
      some (.int .i64 1, [])) (
      some (.int .i64 0, []))))) := by kernel_rfl
theorem e109_2 (C : CallT) (r0 : List (List V)) (r1 : List (List V)) (n2 : Int) (r3 : List (List V)) (n4 : Int) (n5 : Int) : zp NZ Go.Ab.LZ C 109 none 2 (zbi r0 r1 n2 r3 n4 n5) =
  cond (decide (n5 < n4)) (
   (zS r3 n5 1).bind fun x0 =>
   (zg x0).bind fun x1 =>
   (asInt .u8 (x1.1)).bind fun x2 =>
   (zh x1.2).bind fun x3 =>
   cond (decide (n5 ≥ ((r1.length : Nat) : Int))) (
    some (.ret, (zbi r0 r1 1 r3 n4 n5))) (
    (zS r1 n5 1).bind fun x4 =>
    (zg x4).bind fun x5 =>
    (asInt .u8 (x5.1)).bind fun x6 =>
    (zh x5.2).bind fun x7 =>
    (C.p (.func 118) [.int .u8 x2, .int .u8 x6]).bind fun x8 =>
    (asInt .i64 (x8)).bind fun x9 =>
    cond (x9 != 0) (
     some (.ret, (zbi r0 r1 x9 r3 n4 n5))) (
     some (.normal, (zbi r0 r1 n2 r3 n4 (Go.IntKind.wrap .i64 (n5 + 1))))))) (
   some ((.exit 0), (zbi r0 r1 n2 r3 n4 n5))) := by kernel_rfl
theorem e109 (C : CallT) (r0 : List (List V)) (r1 : List (List V)) : zO NZ Go.Ab.LZ C (.func 109) [.slice .any r0, .slice .any r1] [] =
  (C.w (zp NZ Go.Ab.LZ C 109 none 2) (zbi r0 r1 0 r0 ((r0.length : Nat) : Int) 0)).bind fun x0 =>
  match x0.1 with
  | .normal =>
    none
  | .exit x2 =>
    cond (Nat.beq x2 0) (
     (zl ((nth x0.2.t 0))).bind fun x3 =>
     (zl ((nth x0.2.t 1))).bind fun x4 =>
     (asInt .i64 ((nth x0.2.t 4))).bind fun x5 =>
     (zl ((nth x0.2.t 9))).bind fun x6 =>
     (asInt .i64 ((nth x0.2.t 10))).bind fun x7 =>
     (asInt .i64 ((nth x0.2.t 11))).bind fun x8 =>
     cond (decide (((x3.length : Nat) : Int) < ((x4.length : Nat) : Int))) (
      some (.int .i64 (-1), [])) (
      some (.int .i64 0, []))) (
     none)
  | .ret =>
    (zl ((nth x0.2.t 0))).bind fun x9 =>
    (zl ((nth x0.2.t 1))).bind fun x10 =>
    (asInt .i64 ((nth x0.2.t 4))).bind fun x11 =>
    (zl ((nth x0.2.t 9))).bind fun x12 =>
    (asInt .i64 ((nth x0.2.t 10))).bind fun x13 =>
    (asInt .i64 ((nth x0.2.t 11))).bind fun x14 =>
    some (.int .i64 x11, []) := by kernel_rfl
theorem e92 (C : CallT) (n0 : Int) (n1 : Int) (n2 : Int) (n3 : Int) (n4 : Int) (n5 : Int) (n6 : Int) (n7 : Int) (n8 : Int) (n9 : Int) (n10 : Int) (n11 : Int) : zO NZ Go.Ab.LZ C (.func 92) [.agg [.int .u8 n0, .int .u8 n1, .int .u8 n2, .int .u8 n3, .int .u8 n4, .int .u8 n5], .agg [.int .u8 n6, .int .u8 n7, .int .u8 n8, .int .u8 n9, .int .u8 n10, .int .u8 n11]] [] =
 (C.p (.func 109) [.slice .any [[.int .u8 n0], [.int .u8 n1], [.int .u8 n2], [.int .u8 n3], [.int .u8 n4], [.int .u8 n5]], .slice .any [[.int .u8 n6], [.int .u8 n7], [.int .u8 n8], [.int .u8 n9], [.int .u8 n10], [.int .u8 n11]]]).bind fun x0 =>
 (asInt .i64 (x0)).bind fun x1 =>
 some (.int .i64 x1, [.arr false 1 [[.int .u8 n0], [.int .u8 n1], [.int .u8 n2], [.int .u8 n3], [.int .u8 n4], [.int .u8 n5]], .arr false 1 [[.int .u8 n6], [.int .u8 n7], [.int .u8 n8], [.int .u8 n9], [.int .u8 n10], [.int .u8 n11]]]) := by kernel_rfl
theorem p127 (n : Int) : (CW NZ LZ).p (.func 127) [.int .u8 n] = some (.bool false) := by
 refine zE (h := []) ?_ rfl
 simp [e127]
theorem p118 (n m : Int) : (CW NZ LZ).p (.func 118) [.int .u8 n, .int .u8 m] = some (.int .i64 (if n < m then -1 else if n > m then 1 else 0)) := by
 refine zE (h := []) ?_ rfl
 simp only [e118, p127, zs, zQ, zD, zw, zI, zP, zu, zV, zr, zC, zt, zR, z6, zaa, zY, zH, zM, zN, zW, zB, zG, zK, zL, Option.bind_some, Option.bind_none, cond_true, cond_false, zT, zU]
 by_cases h1 : n < m
 ·simp only [h1, if_true]
 ·by_cases h2 : n > m
  ·simp only [h1, h2, if_true, if_false]
  ·simp only [h1, h2, if_false]
theorem cmp_step (x y : E6) (z : Int) (i : Nat) (u v : Nat) (hi : i < 6) (hu : zS x.rw ((i : Nat) : Int) 1 = some [.int .u8 ((u : Nat) : Int)]) (hv : zS y.rw ((i : Nat) : Int) 1 = some [.int .u8 ((v : Nat) : Int)]) :
  zp NZ LZ (CW NZ LZ) 109 none 2 (zbi x.rw y.rw z x.rw 6 ((i : Nat) : Int)) =
   if u < v then some (.ret, zbi x.rw y.rw (-1) x.rw 6 ((i : Nat) : Int)) else if v < u then some (.ret, zbi x.rw y.rw 1 x.rw 6 ((i : Nat) : Int)) else some (.normal, zbi x.rw y.rw z x.rw 6 ((i + 1 : Nat) : Int)) := by
 have e1 : decide (((i : Nat) : Int) < 6) = true := by simp; omega
 have e2 : decide (((i : Nat) : Int) ≥ ((y.rw.length : Nat) : Int)) = false := by simp [E6.rw]; omega
 rw [e109_2, e1, e2]
 simp only [hu, hv, zs, zQ, zD, zw, zI, zP, zu, zV, zr, zC, zt, zR, z6, zaa, zY, zH, zM, zN, zW, zB, zG, zK, zL, Option.bind_some, Option.bind_none, cond_true, cond_false, zT, zU, p118, zaV i (by omega)]
 by_cases h1 : u < v
 ·have h1' : ((u : Nat) : Int) < ((v : Nat) : Int) := by omega
  simp only [h1, h1', if_true]; rfl
 ·have h1' : ¬ ((u : Nat) : Int) < ((v : Nat) : Int) := by omega
  by_cases h2 : v < u
  ·have h2' : ((u : Nat) : Int) > ((v : Nat) : Int) := by omega
   simp only [h1, h1', h2, h2', if_true, if_false]; rfl
  ·have h2' : ¬ ((u : Nat) : Int) > ((v : Nat) : Int) := by omega
   simp only [h1, h1', h2, h2', if_false]; rfl
theorem p109 (x y : E6) (hx : x.ok) (hy : y.ok) : (CW NZ LZ).p (.func 109) [.slice .any x.rw, .slice .any y.rw] = some (.int .i64 (x.ord y)) := by
 have ret : ∀ (z : Int) (k : Int), zal (zp NZ LZ (CW NZ LZ) 109 none 2) (zbi x.rw y.rw 0 x.rw 6 0) = some (.ret, zbi x.rw y.rw z x.rw 6 k) → x.ord y = z → (CW NZ LZ).p (.func 109) [.slice .any x.rw, .slice .any y.rw] = some (.int .i64 (x.ord y)) := by
  intro z k h hz
  rw [hz]
  refine zE (h := []) ?_ rfl
  rw [e109, zaz]
  refine (zZ h _).trans ?_
  kernel_rfl
 obtain ⟨a, b, c, d, e, f⟩ := x
 obtain ⟨a', b', c', d', e', f'⟩ := y
 obtain ⟨xa, xb, xc, xd, xe, xf⟩ := hx
 obtain ⟨ya, yb, yc, yd, ye, yf⟩ := hy
 simp only at xa xb xc xd xe xf ya yb yc yd ye yf
 have s0 := cmp_step ⟨a, b, c, d, e, f⟩ ⟨a', b', c', d', e', f'⟩ 0 0 a a' (by omega) rfl rfl
 have s1 := cmp_step ⟨a, b, c, d, e, f⟩ ⟨a', b', c', d', e', f'⟩ 0 1 b b' (by omega) rfl rfl
 have s2 := cmp_step ⟨a, b, c, d, e, f⟩ ⟨a', b', c', d', e', f'⟩ 0 2 c c' (by omega) rfl rfl
 have s3 := cmp_step ⟨a, b, c, d, e, f⟩ ⟨a', b', c', d', e', f'⟩ 0 3 d d' (by omega) rfl rfl
 have s4 := cmp_step ⟨a, b, c, d, e, f⟩ ⟨a', b', c', d', e', f'⟩ 0 4 e e' (by omega) rfl rfl
 have s5 := cmp_step ⟨a, b, c, d, e, f⟩ ⟨a', b', c', d', e', f'⟩ 0 5 f f' (by omega) rfl rfl
 by_cases h0 : a < a'
 ·rw [if_pos h0] at s0
  exact ret _ _ (zac s0) (by unfold E6.ord E6.key; rw [if_pos (by simp only; omega)])
 by_cases k0 : a' < a
 ·rw [if_neg h0, if_pos k0] at s0
  exact ret _ _ (zac s0) (by unfold E6.ord E6.key; rw [if_neg (by simp only; omega), if_pos (by simp only; omega)])
 rw [if_neg h0, if_neg k0] at s0
 by_cases h1 : b < b'
 ·rw [if_pos h1] at s1
  exact ret _ _ ((zk s0).trans (zac s1)) (by unfold E6.ord E6.key; rw [if_pos (by simp only; omega)])
 by_cases k1 : b' < b
 ·rw [if_neg h1, if_pos k1] at s1
  exact ret _ _ ((zk s0).trans (zac s1)) (by unfold E6.ord E6.key; rw [if_neg (by simp only; omega), if_pos (by simp only; omega)])
 rw [if_neg h1, if_neg k1] at s1
 by_cases h2 : c < c'
 ·rw [if_pos h2] at s2
  exact ret _ _ ((zk s0).trans ((zk s1).trans (zac s2))) (by unfold E6.ord E6.key; rw [if_pos (by simp only; omega)])
 by_cases k2 : c' < c
 ·rw [if_neg h2, if_pos k2] at s2
  exact ret _ _ ((zk s0).trans ((zk s1).trans (zac s2))) (by unfold E6.ord E6.key; rw [if_neg (by simp only; omega), if_pos (by simp only; omega)])
 rw [if_neg h2, if_neg k2] at s2
 by_cases h3 : d < d'
 ·rw [if_pos h3] at s3
  exact ret _ _ ((zk s0).trans ((zk s1).trans ((zk s2).trans (zac s3)))) (by unfold E6.ord E6.key; rw [if_pos (by simp only; omega)])
 by_cases k3 : d' < d
 ·rw [if_neg h3, if_pos k3] at s3
  exact ret _ _ ((zk s0).trans ((zk s1).trans ((zk s2).trans (zac s3)))) (by unfold E6.ord E6.key; rw [if_neg (by simp only; omega), if_pos (by simp only; omega)])
 rw [if_neg h3, if_neg k3] at s3
 by_cases h4 : e < e'
 ·rw [if_pos h4] at s4
  exact ret _ _ ((zk s0).trans ((zk s1).trans ((zk s2).trans ((zk s3).trans (zac s4))))) (by unfold E6.ord E6.key; rw [if_pos (by simp only; omega)])
 by_cases k4 : e' < e
 ·rw [if_neg h4, if_pos k4] at s4
  exact ret _ _ ((zk s0).trans ((zk s1).trans ((zk s2).trans ((zk s3).trans (zac s4))))) (by unfold E6.ord E6.key; rw [if_neg (by simp only; omega), if_pos (by simp only; omega)])
 rw [if_neg h4, if_neg k4] at s4
 by_cases h5 : f < f'
 ·rw [if_pos h5] at s5
  exact ret _ _ ((zk s0).trans ((zk s1).trans ((zk s2).trans ((zk s3).trans ((zk s4).trans (zac s5)))))) (by unfold E6.ord E6.key; rw [if_pos (by simp only; omega)])
 by_cases k5 : f' < f
 ·rw [if_neg h5, if_pos k5] at s5
  exact ret _ _ ((zk s0).trans ((zk s1).trans ((zk s2).trans ((zk s3).trans ((zk s4).trans (zac s5)))))) (by unfold E6.ord E6.key; rw [if_neg (by simp only; omega), if_pos (by simp only; omega)])
 rw [if_neg h5, if_neg k5] at s5
 have hz : E6.ord ⟨a, b, c, d, e, f⟩ ⟨a', b', c', d', e', f'⟩ = 0 := by unfold E6.ord E6.key; rw [if_neg (by simp only; omega), if_neg (by simp only; omega)]
 rw [hz]
 refine zE (h := []) ?_ rfl
 rw [e109, zaz]
 refine (zZ ((zk s0).trans ((zk s1).trans ((zk s2).trans ((zk s3).trans ((zk s4).trans ((zk s5).trans (zbb (e109_2 _ _ _ _ _ _ _)))))))) _).trans ?_
 kernel_rfl
theorem p92 (x y : E6) (hx : x.ok) (hy : y.ok) : (CW NZ LZ).p (.func 92) [.agg [.int .u8 ((x.a : Nat) : Int), .int .u8 ((x.b : Nat) : Int), .int .u8 ((x.c : Nat) : Int), .int .u8 ((x.d : Nat) : Int), .int .u8 ((x.e : Nat) : Int), .int .u8 ((x.f : Nat) : Int)], .agg [.int .u8 ((y.a : Nat) : Int), .int .u8 ((y.b : Nat) : Int), .int .u8 ((y.c : Nat) : Int), .int .u8 ((y.d : Nat) : Int), .int .u8 ((y.e : Nat) : Int), .int .u8 ((y.f : Nat) : Int)]] = some (.int .i64 (x.ord y)) := by
 refine zE (h := [.arr false 1 x.rw, .arr false 1 y.rw]) ?_ rfl
 rw [e92]
 refine (zZ (p109 x y hx hy) _).trans ?_
 rfl
end Nn
end Go.Ab
namespace Go.Ab
open Go.Proofs Go.RowKit Go.Maps Go.Sort Go.Shelf Go.ChangeMaps
set_option maxHeartbeats 4000000
def zur : Go.Shelf.Ren := ⟨fun | 6 => 113 | 15 => 125 | 14 => 124 | 28 => 137 | 29 => 138 | 20 => 129 | 21 => 130 | 22 => 131 | 23 => 132 | 24 => 133 | 25 => 134 | 26 => 135 | 27 => 136 | 46 => 139 | 47 => 140 | 48 => 141 | 49 => 142 | 50 => 143 | 57 => 144 | n => n, fun | 22 => 98 | 24 => 60 | 25 => 88 | 3 => 3 | 39 => 113 | 0 => 0 | 53 => 145 | 55 => 147 | 4 => 4 | 46 => 138 | 45 => 137 | 50 => 142 | 5 => 5 | 9 => 9 | 66 => 148 | 70 => 152 | 76 => 154 | 77 => 155 | n => n, fun n => n⟩
theorem zom : SlLaysF0.n6 Tryz.prog zur where
  mixed := by kernel_rfl
  f6 := ⟨ "slices.SortFunc[[][6]uint8,[6]uint8]", by decide, Tryz.func113.trans (congrArg some (by kernel_rfl))⟩
  f14 := ⟨ "slices.pdqsortCmpFunc[[6]uint8]", by decide, Tryz.func124.trans (congrArg some (by kernel_rfl))⟩
  f15 := Tryz.func125.trans (congrArg some (by kernel_rfl))
  f20 := ⟨ "slices.insertionSortCmpFunc[[6]uint8]", by decide, Tryz.func129.trans (congrArg some (by kernel_rfl))⟩
  f21 := ⟨ "slices.heapSortCmpFunc[[6]uint8]", by decide, Tryz.func130.trans (congrArg some (by kernel_rfl))⟩
  f22 := ⟨ "slices.breakPatternsCmpFunc[[6]uint8]", by decide, Tryz.func131.trans (congrArg some (by kernel_rfl))⟩
  f23 := ⟨ "slices.choosePivotCmpFunc[[6]uint8]", by decide, Tryz.func132.trans (congrArg some (by kernel_rfl))⟩
  f24 := ⟨ "slices.reverseRangeCmpFunc[[6]uint8]", by decide, Tryz.func133.trans (congrArg some (by kernel_rfl))⟩
  f25 := ⟨ "slices.partialInsertionSortCmpFunc[[6]uint8]", by decide, Tryz.func134.trans (congrArg some (by kernel_rfl))⟩
  f26 := ⟨ "slices.partitionEqualCmpFunc[[6]uint8]", by decide, Tryz.func135.trans (congrArg some (by kernel_rfl))⟩
  f27 := ⟨ "slices.partitionCmpFunc[[6]uint8]", by decide, Tryz.func136.trans (congrArg some (by kernel_rfl))⟩
  f28 := Tryz.func137.trans (congrArg some (by kernel_rfl))
  f29 := Tryz.func138.trans (congrArg some (by kernel_rfl))
  f46 := ⟨ "slices.siftDownCmpFunc[[6]uint8]", by decide, Tryz.func139.trans (congrArg some (by kernel_rfl))⟩
  f47 := Tryz.func140.trans (congrArg some (by kernel_rfl))
  f48 := Tryz.func141.trans (congrArg some (by kernel_rfl))
  f49 := ⟨ "slices.medianAdjacentCmpFunc[[6]uint8]", by decide, Tryz.func142.trans (congrArg some (by kernel_rfl))⟩
  f50 := ⟨ "slices.medianCmpFunc[[6]uint8]", by decide, Tryz.func143.trans (congrArg some (by kernel_rfl))⟩
  f57 := ⟨ "slices.order2CmpFunc[[6]uint8]", by decide, Tryz.func144.trans (congrArg some (by kernel_rfl))⟩
  t0 := Tryz.underlying0
  a0 := Tryz.isAgg0
  z0 := Tryz.sizeOf0
  v0 := Tryz.zeroValue0
  t3 := Tryz.underlying3
  a3 := Tryz.isAgg3
  z3 := Tryz.sizeOf3
  v3 := Tryz.zeroValue3
  t4 := Tryz.underlying4
  a4 := Tryz.isAgg4
  z4 := Tryz.sizeOf4
  v4 := Tryz.zeroValue4
  t5 := Tryz.underlying5
  a5 := Tryz.isAgg5
  z5 := Tryz.sizeOf5
  v5 := Tryz.zeroValue5
  t9 := Tryz.underlying9
  a9 := Tryz.isAgg9
  z9 := Tryz.sizeOf9
  v9 := Tryz.zeroValue9
  t22 := Tryz.underlying98
  a22 := Tryz.isAgg98
  z22 := Tryz.sizeOf98
  v22 := Tryz.zeroValue98
  t25 := Tryz.underlying88
  a25 := Tryz.isAgg88
  z25 := Tryz.sizeOf88
  v25 := Tryz.zeroValue88
  t39 := Tryz.underlying113
  a39 := Tryz.isAgg113
  z39 := Tryz.sizeOf113
  v39 := Tryz.zeroValue113
  t45 := Tryz.underlying137
  a45 := Tryz.isAgg137
  z45 := Tryz.sizeOf137
  v45 := Tryz.zeroValue137
  t46 := Tryz.underlying138
  a46 := Tryz.isAgg138
  z46 := Tryz.sizeOf138
  v46 := Tryz.zeroValue138
  t50 := Tryz.underlying142
  a50 := Tryz.isAgg142
  z50 := Tryz.sizeOf142
  v50 := Tryz.zeroValue142
  t53 := Tryz.underlying145
  a53 := Tryz.isAgg145
  z53 := Tryz.sizeOf145
  v53 := Tryz.zeroValue145
  t55 := Tryz.underlying147
  a55 := Tryz.isAgg147
  z55 := Tryz.sizeOf147
  v55 := Tryz.zeroValue147
  t66 := Tryz.underlying148
  a66 := Tryz.isAgg148
  z66 := Tryz.sizeOf148
  v66 := Tryz.zeroValue148
  t70 := Tryz.underlying152
  a70 := Tryz.isAgg152
  z70 := Tryz.sizeOf152
  v70 := Tryz.zeroValue152
  t76 := Tryz.underlying154
  a76 := Tryz.isAgg154
  z76 := Tryz.sizeOf154
  v76 := Tryz.zeroValue154
  t77 := Tryz.underlying155
  a77 := Tryz.isAgg155
  z77 := Tryz.sizeOf155
  v77 := Tryz.zeroValue155
theorem zpD : Tryz.prog.follows .mixedOrders = true := by kernel_rfl
theorem ztD (x y : E6) (hx : x.ok) (hy : y.ok) : zk2 NZ (.func 92) [.agg [.int .u8 ((x.a : Nat) : Int), .int .u8 ((x.b : Nat) : Int), .int .u8 ((x.c : Nat) : Int), .int .u8 ((x.d : Nat) : Int), .int .u8 ((x.e : Nat) : Int), .int .u8 ((x.f : Nat) : Int)], .agg [.int .u8 ((y.a : Nat) : Int), .int .u8 ((y.b : Nat) : Int), .int .u8 ((y.c : Nat) : Int), .int .u8 ((y.d : Nat) : Int), .int .u8 ((y.e : Nat) : Int), .int .u8 ((y.f : Nat) : Int)]] (.int .i64 (x.ord y)) := by
 obtain ⟨r, h1, h2⟩ := CW_p.1 (Nn.p92 x y hx hy)
 exact zlY (bs_ok (G := NZ) zpD (zrG fun _ => rfl) h1) h2
def R6 : Type := { x : E6 // x.ok }
instance : Inhabited R6 := ⟨⟨⟨0, 0, 0, 0, 0, 0⟩, by decide, by decide, by decide, by decide, by decide, by decide⟩⟩
def E6.vs (x : E6) : List Value := [.int .u8 ((x.a : Nat) : Int), .int .u8 ((x.b : Nat) : Int), .int .u8 ((x.c : Nat) : Int), .int .u8 ((x.d : Nat) : Int), .int .u8 ((x.e : Nat) : Int), .int .u8 ((x.f : Nat) : Int)]
def R6.enc (x : R6) : List Value := x.1.vs
theorem R6.ext {x y : R6} (h : x.1.key = y.1.key) : x = y := Subtype.ext (E6.key_inj x.2 y.2 h)
def R6.cf (x y : R6) : Int := x.1.ord y.1
theorem R6.lt (x y : R6) : ltOf R6.cf x y = decide (x.1.key < y.1.key) := by
 unfold ltOf R6.cf E6.ord
 by_cases h1 : x.1.key < y.1.key
 ·simp [h1]
 ·by_cases h2 : y.1.key < x.1.key <;> simp [h1, h2]
theorem R6.swo : SWO (ltOf R6.cf) where
 irrefl x := by rw [R6.lt]; simp
 trans x y z h1 h2 := by rw [R6.lt] at *; simp at *; omega
 ntrans x y z h1 h2 := by rw [R6.lt] at *; simp at *; omega
theorem ztE {w w' : World} (hos : w'.os = w.os) (ht : w'.tape = w.tape) (ho : w'.output = w.output) (hd : w.drawn ≤ w'.drawn) (hs : w.heap.size ≤ w'.heap.size) (hb : ∀ k, k < w.heap.size → w'.heap[k]? = w.heap[k]?) :
  ∃ q os', w' = grow (w.drewN q) os' := by
 refine ⟨w'.drawn - w.drawn, w'.heap.extract w.heap.size w'.heap.size, ?_⟩
 have e1 : w'.heap = w.heap ++ w'.heap.extract w.heap.size w'.heap.size := by
  apply Array.ext_getElem?
  intro k
  by_cases hk : k < w.heap.size
  ·rw [hb k hk, Array.getElem?_append_left hk]
  ·rw [Array.getElem?_append_right (by omega), Array.getElem?_extract]
   by_cases h2 : k < w'.heap.size
   ·rw [if_pos (by omega)]; congr 1; omega
   ·rw [if_neg (by omega), Array.getElem?_eq_none (by omega)]
 have e2 : w'.drawn = w.drawn + (w'.drawn - w.drawn) := by omega
 cases w'; cases w
 simp only at *
 subst hos ht ho
 simp only [grow, World.drewN]
 rw [← e1, ← e2]
theorem zh8 {w W : World} {g : Gh} (h : RowKit.Below w.heap.size w W) : (zn w g).le (zn W g) where
 M b j c e := by
  simp only [zn] at e ⊢
  split at e
  ·rename_i hg
   by_cases hb : b < w.heap.size
   ·rw [if_pos hg, h.block b hb]; exact e
   ·rw [Array.getElem?_eq_none (by omega)] at e; cases e
  ·cases e
 Z b n e := by
  simp only [zn] at e ⊢
  by_cases hb : b < w.heap.size
  ·rw [h.block b hb]; exact e
  ·rw [Array.getElem?_eq_none (by omega)] at e; cases e
 J _ _ e := e
 L _ b l e := ⟨b, l, e, Nat.le_refl _, fun _ => rfl⟩
theorem ziS {w w1 : World} (hb : RowKit.Below w.heap.size w w1) {α : Type} [Inhabited α] (enc : α → List Value) (k blk off m : Nat) (dk : Array α) (os : Array Obj) (hblk : w.heap.size ≤ blk) : RowKit.Below w.heap.size w (sortWorldK enc k w1 blk off m dk os) := by
 refine ⟨hb.os, hb.tape, hb.output, ?_, fun i hi => ?_⟩
 ·have := hb.size
  simp [sortWorldK, grow, putRowK, putRow, mapBlock, ahead]
  omega
 ·rw [← hb.block i hi]
  have h1 : i < w1.heap.size := Nat.lt_of_lt_of_le hi hb.size
  simp only [sortWorldK, grow, putRowK, putRow, mapBlock, ahead]
  rw [Array.getElem?_append_left (by simpa using h1), Array.getElem?_modify, if_neg (by omega)]
  rfl
theorem ztF (w : World) (g : Gh) (wf : WF w g) (hG : zcg NZ w g) (w1 : World) (hb : RowKit.Below w.heap.size w w1) (blk off size : Nat) (hblk : w.heap.size ≤ blk) : CmpLays Tryz.prog 92 #[] R6.enc 6 R6.cf blk off size w1 := by
 intro m os0 dk hs x y
 obtain ⟨f, hf, _, hc⟩ := ztD x.1 y.1 x.2 y.2
 cases hf
 generalize hW : sortWorldK R6.enc 6 w1 blk off m dk os0 = W
 have hB : RowKit.Below w.heap.size w W := by rw [← hW]; exact ziS hb _ _ _ _ _ _ _ hblk
 have hle : (zn w g).le (zn W g) := zh8 hB
 have wf' : WF W g := ⟨fun b hb => wf.new b (Nat.le_trans hB.size hb), wf.inj, wf.nx⟩
 refine (hc W g [.agg x.1.vs.toArray, .agg y.1.vs.toArray] wf' (hG.le hle) ?_).mono ?_
 ·simp only [VRs, VR, VRl]
  exact ⟨_, [_], rfl, ⟨_, rfl, _, _, rfl, ⟨rfl, rfl⟩, _, _, rfl, ⟨rfl, rfl⟩, _, _, rfl, ⟨rfl, rfl⟩, _, _, rfl, ⟨rfl, rfl⟩, _, _, rfl, ⟨rfl, rfl⟩, _, _, rfl, ⟨rfl, rfl⟩, rfl⟩, _, [], rfl, ⟨_, rfl, _, _, rfl, ⟨rfl, rfl⟩, _, _, rfl, ⟨rfl, rfl⟩, _, _, rfl, ⟨rfl, rfl⟩, _, _, rfl, ⟨rfl, rfl⟩, _, _, rfl, ⟨rfl, rfl⟩, _, _, rfl, ⟨rfl, rfl⟩, rfl⟩, rfl⟩
 ·rintro e w' ⟨c, g', rfl, wf'', hJ, hx, hv⟩
  simp only [VR] at hv
  subst hv
  exact ⟨rfl, ztE hx.os hx.tape hx.output hx.dr hx.size fun k hk => (hx.keep k hk fun p _ hp => hp).1⟩
def E6.l (x : E6) : List Int := [((x.a : Nat) : Int), ((x.b : Nat) : Int), ((x.c : Nat) : Int), ((x.d : Nat) : Int), ((x.e : Nat) : Int), ((x.f : Nat) : Int)]
theorem zhu (x : R6) : x.enc.length = 6 := rfl
theorem to6 {x : List Int} (h6 : x.length = 6) (hb : ∀ n ∈ x, 0 ≤ n ∧ n < 256) : ∃ r : R6, r.1.l = x := by
 match x, h6 with
 | [a, b, c, d, e, f], _ =>
  simp only [List.mem_cons, List.not_mem_nil, or_false, forall_eq_or_imp, forall_eq] at hb
  obtain ⟨h1, h2, h3, h4, h5, h6⟩ := hb
  refine ⟨⟨⟨a.toNat, b.toNat, c.toNat, d.toNat, e.toNat, f.toNat⟩, by unfold E6.ok; simp only; omega⟩, ?_⟩
  simp only [E6.l, Int.toNat_of_nonneg h1.1, Int.toNat_of_nonneg h2.1, Int.toNat_of_nonneg h3.1, Int.toNat_of_nonneg h4.1, Int.toNat_of_nonneg h5.1, Int.toNat_of_nonneg h6.1]
theorem all6 : ∀ {ks : List (List Int)} (_ : ∀ x ∈ ks, x.length = 6 ∧ ∀ n ∈ x, 0 ≤ n ∧ n < 256), ∃ d : List R6, d.map (fun r => r.1.l) = ks
 | [], _ => ⟨[], rfl⟩
 | x :: ks, h => by
  obtain ⟨r, hr⟩ := to6 (h x (by simp)).1 (h x (by simp)).2
  obtain ⟨d, hd⟩ := all6 (ks := ks) fun y hy => h y (by simp [hy])
  exact ⟨r :: d, by simp [hr, hd]⟩
theorem zfo {a b : Int} {l r : List Int} {m n : Nat} {x y B : Nat} (hm : m < B) (hn : n < B) (ih : zfJ l r < 0 ↔ m < n) (ha : a = ((x : Nat) : Int)) (hb : b = ((y : Nat) : Int)) : zfJ (a :: l) (b :: r) < 0 ↔ x * B + m < y * B + n := by
 subst ha hb
 simp only [zfJ]
 have key : ∀ u v p q : Nat, u < v → p < B → u * B + p < v * B + q := fun u v p q h hp => by
  have : (u + 1) * B ≤ v * B := Nat.mul_le_mul_right _ h
  rw [Nat.add_mul, Nat.one_mul] at this
  omega
 by_cases h1 : x < y
 ·rw [if_pos (by omega)]
  have := key x y m n h1 hm
  simp [this]
 ·by_cases h2 : y < x
  ·rw [if_neg (by omega), if_pos (by omega)]
   have := key y x n m h2 hn
   constructor
   ·intro h; exact absurd h (by decide)
   ·intro h; omega
  ·have : x = y := by omega
   subst this
   rw [if_neg (by omega), if_neg (by omega), ih]
   omega
theorem zpE (x y : R6) : zfJ x.1.l y.1.l < 0 ↔ x.1.key < y.1.key := by
 obtain ⟨⟨a, b, c, d, e, f⟩, hx⟩ := x
 obtain ⟨⟨a', b', c', d', e', f'⟩, hy⟩ := y
 simp only [E6.ok] at hx hy
 have h0 : zfJ [] [] < 0 ↔ (0 : Nat) < 0 := by simp [zfJ]
 have h1 := zfo (a := ((f : Nat) : Int)) (b := ((f' : Nat) : Int)) (B := 1) (by omega) (by omega) h0 rfl rfl
 have h2 := zfo (a := ((e : Nat) : Int)) (b := ((e' : Nat) : Int)) (B := 256) (by omega) (by omega) h1 rfl rfl
 have h3 := zfo (a := ((d : Nat) : Int)) (b := ((d' : Nat) : Int)) (B := 65536) (by omega) (by omega) h2 rfl rfl
 have h4 := zfo (a := ((c : Nat) : Int)) (b := ((c' : Nat) : Int)) (B := 16777216) (by omega) (by omega) h3 rfl rfl
 have h5 := zfo (a := ((b : Nat) : Int)) (b := ((b' : Nat) : Int)) (B := 4294967296) (by omega) (by omega) h4 rfl rfl
 have h6 := zfo (a := ((a : Nat) : Int)) (b := ((a' : Nat) : Int)) (B := 1099511627776) (by omega) (by omega) h5 rfl rfl
 have e1 : E6.key ⟨a, b, c, d, e, f⟩ = a * 1099511627776 + (b * 4294967296 + (c * 16777216 + (d * 65536 + (e * 256 + (f * 1 + 0))))) := by simp only [E6.key]; omega
 have e2 : E6.key ⟨a', b', c', d', e', f'⟩ = a' * 1099511627776 + (b' * 4294967296 + (c' * 16777216 + (d' * 65536 + (e' * 256 + (f' * 1 + 0))))) := by simp only [E6.key]; omega
 rw [e1, e2]
 exact h6
def zeu (x : R6) : List R6 → List R6
 | [] => [x]
 | y :: l => if x.1.key < y.1.key then x :: y :: l else y :: zeu x l
theorem zlu (x : R6) : ∀ l : List R6, zlj x.1.l (l.map fun r => r.1.l) = (zeu x l).map fun r => r.1.l
 | [] => rfl
 | y :: l => by
  simp only [List.map_cons, zlj, zeu]
  by_cases h : x.1.key < y.1.key
  ·rw [if_pos ((zpE x y).2 h), if_pos h]; rfl
  ·rw [if_neg (fun h' => h ((zpE x y).1 h')), if_neg h, zlu x l]; rfl
theorem zei : ∀ l : List R6, zfi (l.map fun r => r.1.l) = (l.foldr zeu []).map fun r => r.1.l
 | [] => rfl
 | x :: l => by
  have := zei l
  unfold zfi at this ⊢
  simp only [List.map_cons, List.foldr_cons, this, zlu]
theorem ziT (x : R6) : ∀ l : List R6, (zeu x l).Perm (x :: l)
 | [] => List.Perm.refl _
 | y :: l => by
  simp only [zeu]
  split
  ·exact List.Perm.refl _
  ·exact ((ziT x l).cons y).trans (List.Perm.swap x y l)
def leR (x y : R6) : Prop := x.1.key ≤ y.1.key
theorem zj2 (x : R6) : ∀ l : List R6, l.Pairwise leR → (zeu x l).Pairwise leR
 | [], _ => by simp [zeu]
 | y :: l, h => by
  obtain ⟨h1, h2⟩ := List.pairwise_cons.1 h
  simp only [zeu]
  split
  ·rename_i hxy
   refine List.pairwise_cons.2 ⟨fun z hz => ?_, h⟩
   rcases List.mem_cons.1 hz with rfl | hz
   ·exact Nat.le_of_lt hxy
   ·have := h1 z hz; unfold leR at *; omega
  ·rename_i hxy
   refine List.pairwise_cons.2 ⟨fun z hz => ?_, zj2 x l h2⟩
   rcases List.mem_cons.1 ((ziT x l).mem_iff.1 hz) with rfl | hz
   ·unfold leR; omega
   ·exact h1 z hz
theorem zh9 : ∀ l : List R6, (l.foldr zeu []).Perm l
 | [] => List.Perm.refl _
 | x :: l => (ziT x _).trans ((zh9 l).cons x)
theorem ziU : ∀ l : List R6, (l.foldr zeu []).Pairwise leR
 | [] => List.Pairwise.nil
 | x :: l => zj2 x _ (ziU l)
theorem zph {d k : List R6} (hp : d.Perm k) : (d.mergeSort fun x y => !(ltOf R6.cf) y x) = k.foldr zeu [] := by
 have h1 : (d.mergeSort fun x y => !(ltOf R6.cf) y x).Pairwise leR := by
  have := List.pairwise_mergeSort (le := fun x y => !(ltOf R6.cf) y x) (fun a b c h1 h2 => by rw [R6.lt] at *; simp at *; omega) (fun a b => by rw [R6.lt, R6.lt]; simp; omega) d
  refine this.imp fun {a b} h => ?_
  rw [R6.lt] at h
  unfold leR
  simpa using h
 refine List.Perm.eq_of_pairwise (le := leR) (fun a b _ _ h1 h2 => R6.ext ?_) h1 (ziU k) ((List.mergeSort_perm d _).trans (hp.trans (zh9 k).symm))
 unfold leR at *; omega
theorem zkw {α : Type} (f : α → List Value) (hf : ∀ x, (f x).length = 6) : ∀ (d : List α) (t : Nat), (d.flatMap f)[t]? = (d[t / 6]?).bind fun x => (f x)[t % 6]?
 | [], t => by simp
 | x :: d, t => by
  rw [List.flatMap_cons]
  by_cases h : t < 6
  ·rw [List.getElem?_append_left (by rw [hf]; exact h), Nat.div_eq_of_lt h, Nat.mod_eq_of_lt h]; rfl
  ·rw [List.getElem?_append_right (by rw [hf]; omega), hf, zkw f hf d (t - 6)]
   have e1 : t / 6 = (t - 6) / 6 + 1 := by omega
   have e2 : (t - 6) % 6 = t % 6 := by omega
   rw [e1, e2, List.getElem?_cons_succ]
structure SortedAt (ks : List (List Int)) (w : World) (e : Ending) (w' : World) : Prop where
 below : RowKit.Below w.heap.size w w'
 dr : w.drawn ≤ w'.drawn
 val : ∃ a cap, e = .returned (.slice a ks.length cap) ∧ ks.length ≤ cap ∧ (a = none → cap = 0) ∧ (ks ≠ [] → ∃ blk, w.heap.size ≤ blk ∧ a = some ⟨blk, 0, none⟩ ∧ ∀ (j : Nat) (u : Value), ((zfi ks).flatMap kv)[j]? = some u → w'.cell? ⟨blk, j, none⟩ = some u)
theorem holds6 {w : World} {blk : Nat} {cur : Array Value} {e : TypeId} {d : List R6} (hb : w.heap[blk]? = some (.cells cur e (0, 0))) (ht : cur.toList.take (d.length * 6) = d.flatMap R6.enc) : HoldsK R6.enc 6 w blk 0 d.toArray := by
 intro j hj
 have hj' : j < d.length * 6 := by simpa using hj
 refine ⟨?_, by simp [World.frozen?, hb]⟩
 have h1 : cur[j]? = (d.flatMap R6.enc)[j]? := by
  rw [← ht, List.getElem?_take, if_pos hj', Array.getElem?_toList]
 have h2 := zkw R6.enc zhu d j
 have hi : j / 6 < d.length := by omega
 have hm : j % 6 < (R6.enc d[j / 6]).length := by rw [zhu]; omega
 rw [List.getElem?_eq_getElem hi, Option.bind_some, List.getElem?_eq_getElem hm] at h2
 have h3 : (flatK R6.enc 6 d.toArray)[j]! = (R6.enc d[j / 6])[j % 6] := by
  rw [get_flatK _ _ _ _ (by simpa using hj')]
  simp [hi, hm]
 unfold World.cell?
 rw [hb, h3]
 simp only [Nat.zero_add, Option.isSome_none, Bool.false_eq_true, if_false, id]
 rw [h1, h2]
theorem cells6 {w : World} {blk : Nat} {d : List R6} (h : HoldsK R6.enc 6 w blk 0 d.toArray) : ∀ (j : Nat) (u : Value), (d.flatMap R6.enc)[j]? = some u → w.cell? ⟨blk, j, none⟩ = some u := by
 intro j u hj
 have h2 := zkw R6.enc zhu d j
 rw [hj] at h2
 have hi : j / 6 < d.length := by
  apply Nat.lt_of_not_le
  intro hle
  rw [List.getElem?_eq_none hle] at h2
  cases h2
 have hm : j % 6 < (R6.enc d[j / 6]).length := by rw [zhu]; omega
 rw [List.getElem?_eq_getElem hi, Option.bind_some, List.getElem?_eq_getElem hm] at h2
 have hj' : j < d.length * 6 := by omega
 have h3 : (flatK R6.enc 6 d.toArray)[j]! = (R6.enc d[j / 6])[j % 6] := by
  rw [get_flatK _ _ _ _ (by simpa using hj')]
  simp [hi, hm]
 have := (h j (by simpa using hj')).1
 rw [h3, Nat.zero_add] at this
 rw [this]
 simp only [id]
 exact h2.symm
theorem zl4 : ∀ d : List R6, (d.map fun r => r.1.l).flatMap kv = d.flatMap R6.enc
 | [] => rfl
 | x :: d => by simp only [List.map_cons, List.flatMap_cons, zl4 d]; rfl
theorem l_inj {x y : R6} (h : x.1.l = y.1.l) : x = y := by
 obtain ⟨⟨a, b, c, d, e, f⟩, hx⟩ := x
 obtain ⟨⟨a', b', c', d', e', f'⟩, hy⟩ := y
 simp only [E6.l, List.cons.injEq, Int.natCast_inj, and_true] at h
 obtain ⟨rfl, rfl, rfl, rfl, rfl, rfl⟩ := h
 rfl
open Classical in
noncomputable def decR (x : List Int) : R6 := if h : ∃ r : R6, r.1.l = x then Classical.choose h else default
theorem decR_l (r : R6) : decR r.1.l = r := by
 have h : ∃ s : R6, s.1.l = r.1.l := ⟨r, rfl⟩
 unfold decR
 rw [dif_pos h]
 exact l_inj (Classical.choose_spec h)
theorem zkx : ∀ d : List R6, (d.map fun r => r.1.l).map decR = d
 | [] => rfl
 | x :: d => by rw [List.map_cons, List.map_cons, decR_l, zkx d]
set_option maxHeartbeats 2000000 in
set_option maxRecDepth 100000 in
theorem zqv (w : World) (g : Gh) (wf : WF w g) (hG : zcg NZ w g) (Bm b : Nat) (ks : List (List Int)) (es : Array MapEntry) (hks : ze2 ks es) (hk : ∀ x ∈ ks, x.length = 6 ∧ ∀ n ∈ x, 0 ≤ n ∧ n < 256) (hlen : ks.length < 1000000)
  (hm : w.cell? ⟨Bm, 0, none⟩ = some (.map (some b))) (hb : w.heap[b]? = some (.map es es.size)) :
  Calls Tryz.prog 99 #[.func (.func 114) #[] #[.pointer (some ⟨Bm, 0, none⟩)], .func (.func 92) #[] #[]] w (SortedAt ks w) := by
 have t0 := Tryz.underlying0; have a0 := Tryz.isAgg0; have z0 := Tryz.sizeOf0; have v0 := Tryz.zeroValue0
 have t79 := Tryz.underlying98; have a79 := Tryz.isAgg98; have z79 := Tryz.sizeOf98; have v79 := Tryz.zeroValue98
 have mixed : Tryz.prog.follows .mixedOrders = true := by kernel_rfl
 have hcol := (callsIn_wide (n := 3)).1 (zuq Fence.wide 3 (fun _ => trivial) rfl (Nat.le_refl _) Bm b ks es hks (fun x hx => (hk x hx).1) hlen w hm hb)
 have eg : ∀ args w, (callFunc 92 args).run Tryz.prog w = .ok (.enter 92 args) w := enters_of Tryz.func92 (by kernel_rfl) rfl
 obtain ⟨dk, hdk⟩ := all6 hk
 go_enter Tryz.func99, Tryz.ntmps99
 go_wp2_with (go_at_call 112; refine hcol.mono ?_; rintro e w1 ⟨v, ss, rfl, hS, hrow, hb1, hd1⟩)
 have hsl : ss.length = ks.length := hS.length_eq
 obtain ⟨d, hd⟩ := all6 (ks := ss) fun x hx => hk x (hS.mem_iff.1 hx)
 have hdp : d.Perm dk := by
  have := hS.map decR
  rwa [← hd, ← hdk, zkx, zkx] at this
 rcases hrow.2 with ⟨rfl, hz⟩ | ⟨gb, cap, cur, rfl, hbase, hgb, r1, r2, r3, r4⟩
 ·have hnone := fun W => AnyF.slices_SortFunc_none (P := Tryz.prog) zom none 0 (.func (.func 92) #[] #[]) W
  change ∀ W, Calls Tryz.prog 113 _ _ _ at hnone
  go_wp2_with (go_at_call 113; refine (hnone _).mono ?_; rintro e w' ⟨rfl, rfl⟩)
  go_ret
  have hks0 : ks.length = 0 := by omega
  refine ⟨hb1, hd1, none, 0, by rw [hks0]; rfl, by omega, fun _ => rfl, fun h => absurd (List.length_eq_zero_iff.1 hks0) h⟩
 ·have hdl : d.length = ss.length := by rw [← hd, List.length_map]
  have hH : HoldsK R6.enc 6 w1 gb 0 d.toArray := holds6 hgb (by rw [hdl, r4, ← hd, zl4])
  have hsz : d.toArray.size < 4611686018427387904 := by simp; omega
  have hgl : gb < w1.heap.size := (Array.getElem?_eq_some_iff.1 hgb).1
  have hcon := AnyQ.slices_SortFunc_total zom 6 Tryz.isAgg60 Tryz.sizeOf60 R6.enc zhu (fun x v hv => by simp [R6.enc, E6.vs] at hv; rcases hv with rfl | rfl | rfl | rfl | rfl | rfl <;> rfl) R6.cf R6.swo 92 #[] gb 0 cap d.toArray w1 eg (ztF w g wf hG w1 hb1 gb 0 _ hbase) hH hgl hsz
   (fun x y h1 h2 => R6.ext (by rw [R6.lt] at h1 h2; simp at h1 h2; omega))
  change Calls Tryz.prog 113 _ _ _ at hcon
  have hds : d.toArray.size = ss.length := by simp [hdl]
  rw [hds] at hcon
  have hres : ∀ (n : Nat) (os : Array Obj) (j : Nat) (u : Value), ((zfi ks).flatMap kv)[j]? = some u → (sortWorldK R6.enc 6 w1 gb 0 n (d.toArray.toList.mergeSort fun x y => !(ltOf R6.cf) y x).toArray os).cell? ⟨gb, j, none⟩ = some u := by
   intro n os j u hj
   rw [← hdk, zei, zl4, ← zph hdp] at hj
   refine cells6 (d := d.toArray.toList.mergeSort fun x y => !(ltOf R6.cf) y x) ?_ j u hj
   exact holdsK_grow R6.enc 6 _ os gb 0 _ (by simp [putRowK, putRow, mapBlock]; exact hgl) (holdsK_putRowK R6.enc 6 (Sort.ahead w1 n) gb 0 d.toArray _ hH (by simp))
  clear hH
  go_wp2_with (go_at_call 113; refine hcon.mono ?_; rintro e w' ⟨rfl, n, os, rfl⟩)
  go_ret
  refine ⟨ziS hb1 _ _ _ _ _ _ _ hbase, ?_, some ⟨gb, 0, none⟩, cap, by rw [← hsl]; rfl, by omega, fun h => by (first | cases h), fun _ => ⟨gb, hbase, rfl, hres n os⟩⟩
  exact Nat.le_trans hd1 (Nat.le_add_right _ _)
theorem zj3 : ∀ {l : List V} {b : List Int}, zgA l = some b → l = zcD b
 | [], b, h => by simp only [zgA, Option.some.injEq] at h; subst h; rfl
 | .int .u8 n :: l, b, h => by
  simp only [zgA] at h
  obtain ⟨b', h1, rfl⟩ := Option.map_eq_some_iff.1 h
  rw [zj3 h1]; rfl
theorem ziV : ∀ {l : List (List V)} {ks : List (List Int)}, zet l = some ks → l.length = ks.length ∧ ∀ (i : Nat) (r : List V), l[i]? = some r → ∃ x, ks[i]? = some x ∧ r = zcD x
 | [], ks, h => by simp only [zet, Option.some.injEq] at h; subst h; simp
 | r :: l, ks, h => by
  simp only [zet] at h
  obtain ⟨b, h1, h⟩ := zj h
  obtain ⟨ks', h2, rfl⟩ := Option.map_eq_some_iff.1 h
  obtain ⟨g1, g2⟩ := ziV h2
  refine ⟨by simp [g1], fun i r' hi => ?_⟩
  cases i with
  | zero => simp only [List.getElem?_cons_zero, Option.some.injEq] at hi; subst hi; exact ⟨b, rfl, zj3 h1⟩
  | succ i => simp only [List.getElem?_cons_succ] at hi; obtain ⟨x, e1, e2⟩ := g2 i r' hi; exact ⟨x, by simpa using e1, e2⟩
theorem zmG {m : Mem} : ∀ {b : List Int} {cs : List Value}, VRl (zcD b) m cs → cs = kv b
 | [], cs, h => by simp only [zcD, List.map_nil, VRl] at h; exact h
 | n :: b, cs, h => by
  simp only [zcD, List.map_cons, VRl] at h
  obtain ⟨c, cs', rfl, ⟨hc, _⟩, h'⟩ := h
  simp only [VR] at hc
  rw [hc, zmG (b := b) h']; rfl
theorem zmH {m : Mem} {b : Nat} : ∀ (x : List Int) (o : Nat), (∀ j u, (kv x)[j]? = some u → m.M b (o + j) = some u) → VRc (zcD x) m b o
 | [], _, _ => by simp only [zcD, List.map_nil, VRc]
 | n :: x, o, h => by
  simp only [zcD, List.map_cons, VRc]
  refine ⟨⟨.int .u8 n, by simpa using h 0 (.int .u8 n) rfl, by simp only [VR], rfl⟩, zmH x (o + 1) fun j u hj => ?_⟩
  have := h (j + 1) u (by simpa [kv] using hj)
  rwa [show o + (j + 1) = o + 1 + j by omega] at this
theorem zmI {m : Mem} {b : Nat} : ∀ (l : List (List Int)) (o : Nat), (∀ x ∈ l, x.length = 6) → (∀ j u, (l.flatMap kv)[j]? = some u → m.M b (o + j) = some u) → VRr (l.map zcD) m b o 6
 | [], _, _, _ => by simp only [List.map_nil, VRr]
 | x :: l, o, h6, h => by
  simp only [List.map_cons, VRr]
  have hx : x.length = 6 := h6 x (by simp)
  have hl : (kv x).length = 6 := by simp [kv, hx]
  refine ⟨by simp [zcD, hx], zmH x o fun j u hj => h j u ?_, zmI l (o + 6) (fun y hy => h6 y (by simp [hy])) fun j u hj => ?_⟩
  ·rw [List.flatMap_cons, List.getElem?_append_left (List.getElem?_eq_some_iff.1 hj).1]; exact hj
  ·have := h (6 + j) u (by rw [List.flatMap_cons, List.getElem?_append_right (by omega), hl, Nat.add_sub_cancel_left]; exact hj)
   rwa [show o + (6 + j) = o + 6 + j by omega] at this
theorem zsb {fk : FuncId} {h : List Ob} {k : V} {es : List (List V × List V)} (e : zlk fk h k = some es) : ∃ b id, k = .fn (.func fk) [] [.ptr b 0] ∧ zav h b = some (.cells [.map id]) ∧ zav h id = some (.map true false 6 es) := by
 unfold zlk at e
 split at e
 ·rename_i f b
  split at e
  ·rename_i id h1 h2
   split at e
   ·rename_i es' h3
    cases e
    exact ⟨b, id, by rw [Nat.eq_of_beq_eq_true h1], h2, h3⟩
   ·cases e
  ·cases e
 ·cases e
theorem zqw {fo : FuncId} {o : V} (e : zjr fo o = true) : o = .fn (.func fo) [] [] := by
 unfold zjr at e
 split at e
 ·rw [Nat.eq_of_beq_eq_true e]
 ·cases e
theorem told99 {args : List V} {h : List Ob} {r : V × List Ob} (e : zgB 114 92 args h = some r) : zf1 GZ (.func 99) args h r := by
 unfold zgB at e
 split at e
 ·rename_i k o
  split at e
  ·rename_i ho
   obtain ⟨es, h1, e⟩ := zj e
   obtain ⟨ks, h2, e⟩ := zj e
   split at e
   ·rename_i hc
    cases e
    obtain ⟨hc1, hc2⟩ := hc
    have hlen : ks.length < 1000000 := of_decide_eq_true hc1
    obtain ⟨b, id, rfl, hb, hid⟩ := zsb h1
    have ho' := zqw ho
    subst ho'
    rw [zaG] at hb hid
    refine ⟨⟨_, Tryz.func99, by kernel_rfl, by kernel_rfl⟩, fun hn w g cs hS hG hv => ?_⟩
    simp only [VRs, VR] at hv
    obtain ⟨c1, cs1, rfl, ⟨f1, a1, p1, rfl, ha1, ⟨pc, pt, hpt, ⟨B, hJ, rfl⟩, hpt2⟩, hf1⟩, c2, cs2, rfl, ⟨f2, a2, p2, rfl, ha2, hp2, hf2⟩, rfl⟩ := hv
    subst ha1 hpt hpt2 ha2 hp2
    subst hf1 hf2
    obtain ⟨B', cells, ty, hJ', hown, hK, hheap, hcell⟩ := hS.obj b _ hb
    have hBB : B' = B := by rw [show g.J[b]? = some (B, none) from hJ] at hJ'; cases hJ'; rfl
    subst hBB
    simp only [VRl, VR] at hcell
    obtain ⟨c, cs', hcs, ⟨⟨M, hJM, rfl⟩, _⟩, rfl⟩ := hcell
    obtain ⟨hes6, M', ents, hJM', hown', hmap, hsz, hents⟩ := hS.obj id _ hid
    have hMM : M' = M := by rw [show g.J[id]? = some (M, none) from hJM] at hJM'; cases hJM'; rfl
    subst hMM
    obtain ⟨hk1, hk2⟩ := ziV h2
    rw [List.length_map] at hk1
    have hks : ze2 ks ents := ⟨by omega, fun i x hx => by
     have hi : i < es.length := by have := (Array.getElem?_eq_some_iff.1 hx).1; omega
     obtain ⟨y, hy, hborn, ⟨cs, hcs, hkey⟩, _⟩ := hents i es[i] (List.getElem?_eq_getElem hi)
     rw [hx] at hy; cases hy
     obtain ⟨z, hz1, hz2⟩ := hk2 i es[i].1 (by rw [List.getElem?_map, List.getElem?_eq_getElem hi]; rfl)
     rw [hz2] at hcs
     refine ⟨hborn, z, hz1, ?_⟩
     rw [hkey, zmG hcs]; rfl⟩
    have hm : w.cell? ⟨B', 0, none⟩ = some (.map (some M')) := by
     rw [zcX, hheap]
     simp only [zca]
     rw [← Array.getElem?_toList, hcs]; rfl
    refine (zqv w g hS.wf hG B' M' ks ents hks hc2 hlen hm hmap).mono ?_
    rintro e w' ⟨hbel, hdr, a, cap, rfl, hcap, hnone, hrows⟩
    have hx : ∀ ok : Owner → Prop, Ext ok w g w' g := fun ok => ⟨hbel.size, fun b hb _ => ⟨hbel.block b hb, rfl, rfl⟩, zh8 hbel, Nat.le_refl _, hbel.os, hbel.tape, hbel.output, hdr⟩
    have wf' : WF w' g := ⟨fun b hb => hS.wf.new b (Nat.le_trans hbel.size hb), hS.wf.inj, hS.wf.nx⟩
    refine ⟨_, g, rfl, hS.aside wf' rfl (hx _), hx _, ?_⟩
    obtain ⟨dk, hdk⟩ := all6 hc2
    have hl : (zfi ks).length = ks.length := by rw [← hdk, zei, List.length_map, List.length_map, (zh9 dk).length_eq]
    simp only [VR]
    refine ⟨a, cap, by rw [List.length_map, hl], by rw [List.length_map, hl]; exact hcap, trivial, hnone, fun hne => ?_⟩
    obtain ⟨blk, hblk, rfl, hcells⟩ := hrows (by
     intro h0
     apply hne
     rw [List.map_eq_nil_iff, ← List.length_eq_zero_iff, hl, h0]; rfl)
    refine ⟨blk, 0, 6, rfl, zmI _ 0 (fun x hx => ?_) fun j u hj => ?_⟩
    ·rw [← hdk, zei] at hx
     obtain ⟨r, _, rfl⟩ := List.mem_map.1 hx
     rfl
    ·simp only [Mem.alone, zn]
     rw [if_pos (.inl (hS.wf.new blk hblk)), ← zcX, Nat.zero_add]
     exact hcells j u hj
   ·cases e
  ·cases e
 ·cases e
end Go.Ab
