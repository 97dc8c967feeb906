/- What the laws on models are handed; conditions: none. -/
import Derived.Test.YtpalbaaghplhnaaGreatDoorRAZ
import Derived.Test.YtpalbaaghplhnaaGreatDoorTM2Z
set_option linter.unusedVariables false
set_option linter.unusedSimpArgs false
namespace Go.Ab
open Go.RowKit Go.ChangeShapes Go.WideShapes Go.Proofs Go.ChangeAt YtpalbaaghplhnaaGreatDoor
theorem len3 {l : List V} (h : l.length = 3) : ∃ a b c, l = [a, b, c] := by
 match l, h with
 | [a, b, c], _ => exact ⟨a, b, c, rfl⟩
theorem len9 {l : List V} (h : l.length = 9) : ∃ a b c d e f g i j, l = [a, b, c, d, e, f, g, i, j] := by
 match l, h with
 | [a, b, c, d, e, f, g, i, j], _ => exact ⟨a, b, c, d, e, f, g, i, j, rfl⟩
theorem u8r_of {z : Int} (h : IntKind.u8.min ≤ z ∧ z ≤ IntKind.u8.max) : 0 ≤ z ∧ z ≤ 255 := by
 have e1 : IntKind.u8.min = 0 := rfl
 have e2 : IntKind.u8.max = 255 := rfl
 omega
theorem celM : Tryz.prog.cellsOf 26 = 3 := by kernel_rfl
theorem celB : Tryz.prog.cellsOf 27 = 1 := by kernel_rfl
theorem cel16 : Tryz.prog.cellsOf 28 = 1 := by kernel_rfl
theorem celIn : Tryz.prog.cellsOf 30 = 9 := by kernel_rfl
set_option maxRecDepth 100000 in
theorem zm0 (n : Nat) (r : List V) (h : Shp Tryz.prog n 26 r) : ∃ (p : List Tm) (lo hi : Int), r = [.slice .any (p.map Tm.cs), .int .i64 lo, .int .i64 hi] ∧ oks p ∧ p.length < 9223372036854775808 := by
 obtain ⟨m, hl, hf⟩ := zf3 Tryz.underlying26 h
 rw [celM] at hl
 obtain ⟨v0, v1, v2, rfl⟩ := len3 hl
 obtain ⟨l0, e0, n0, o0⟩ := zlJ Tryz.underlying22 (zcA hf 0 rfl rfl celS (v := [v0]) rfl) shp_tm
 obtain ⟨a, ha⟩ := shp_iv m _ (zcA hf 1 rfl rfl celI (v := [v1, v2]) rfl)
 cases e0; cases ha
 exact ⟨l0, a.lo, a.hi, rfl, o0, n0⟩
theorem zuY (n : Nat) (r : List V) (h : Shp Tryz.prog n 59 r) : ∃ z, r = ic z ∧ -128 ≤ z ∧ z ≤ 127 := by
 obtain ⟨z, rfl, h1⟩ := zcv Tryz.underlying59 h
 exact ⟨z, rfl, i8_of h1⟩
set_option maxRecDepth 100000 in
theorem zsG {v : V} (h1 : zd9 Tryz.prog 30 v) : ∃ (p q : List Tm) (lo hi lo' hi' : Int) (s : List Int) (x y : Int), oks p ∧ p.length < 9223372036854775808 ∧ oks q ∧ q.length < 9223372036854775808 ∧ i8s s ∧ s.length < 9223372036854775808 ∧ (0 ≤ x ∧ x ≤ 65535) ∧ (0 ≤ y ∧ y ≤ 65535) ∧
  v = .agg [.slice .any (p.map Tm.cs), .int .i64 lo, .int .i64 hi, .slice .any (q.map Tm.cs), .int .i64 lo', .int .i64 hi', .slice .any (s.map ic), .int .u16 x, .int .u16 y] := by
 obtain ⟨n, us, hv, k1⟩ := arg_of (P := Tryz.prog) Tryz.underlying30 (.inl ⟨_, rfl⟩) h1
 subst hv
 obtain ⟨m, hl, hf⟩ := zf3 Tryz.underlying30 k1
 rw [celIn] at hl
 obtain ⟨v0, v1, v2, v3, v4, v5, v6, v7, v8, rfl⟩ := len9 hl
 obtain ⟨p, lo, hi, e0, o0, n0⟩ := zm0 m _ (zcA hf 0 rfl rfl celM (v := [v0, v1, v2]) rfl)
 obtain ⟨q, lo', hi', e1, o1, n1⟩ := zm0 m _ (zcA hf 1 rfl rfl celM (v := [v3, v4, v5]) rfl)
 obtain ⟨s, e2, n2, o2⟩ := zlJ Tryz.underlying27 (zcA hf 2 rfl rfl celB (v := [v6]) rfl) zuY
 obtain ⟨x, e3, b3⟩ := zcv Tryz.underlying28 (zcA hf 3 rfl rfl cel16 (v := [v7]) rfl)
 obtain ⟨y, e4, b4⟩ := zcv Tryz.underlying28 (zcA hf 4 rfl rfl cel16 (v := [v8]) rfl)
 cases e0; cases e1; cases e2; cases e3; cases e4
 exact ⟨p, q, lo, hi, lo', hi', s, x, y, o0, n0, o1, n1, o2, n2, zsC b3, zsC b4, rfl⟩
end Go.Ab
