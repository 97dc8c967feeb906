/- What the laws on models are handed; conditions: none. -/
import Derived.Test.YtpalbaaghplhnaaGreatDoorRAZ
import Derived.Test.YtpalbaaghplhnaaGreatDoorTM2Z
set_option linter.unusedVariables false
set_option linter.unusedSimpArgs false
namespace Go.Ab
open Go.RowKit Go.ChangeShapes Go.WideShapes Go.Proofs Go.ChangeAt YtpalbaaghplhnaaGreatDoor
theorem args1 {P : Program} {t : TypeId} {vs : List V} (h : zhm P [t] vs) : ∃ v, vs = [v] ∧ zgz P t v := by
 simp only [zhm] at h
 obtain ⟨v, l, rfl, h1, rfl⟩ := h
 exact ⟨v, rfl, h1⟩
theorem len3 {l : List V} (h : l.length = 3) : ∃ a b c, l = [a, b, c] := by
 match l, h with
 | [a, b, c], _ => exact ⟨a, b, c, rfl⟩
theorem len9 {l : List V} (h : l.length = 9) : ∃ a b c d e f g i j, l = [a, b, c, d, e, f, g, i, j] := by
 match l, h with
 | [a, b, c, d, e, f, g, i, j], _ => exact ⟨a, b, c, d, e, f, g, i, j, rfl⟩
theorem celM : Tryz.prog.cellsOf 26 = 3 := by kernel_rfl
theorem celB : Tryz.prog.cellsOf 27 = 1 := by kernel_rfl
theorem cel16 : Tryz.prog.cellsOf 28 = 1 := by kernel_rfl
theorem celIn : Tryz.prog.cellsOf 30 = 9 := by kernel_rfl
set_option maxRecDepth 100000 in
theorem zmV (n : Nat) (r : List V) (h : Shp Tryz.prog n 26 r) : ∃ (p : List Tm) (lo hi : Int), r = [.slice .any (p.map Tm.cs), .int .i64 lo, .int .i64 hi] ∧ oks p ∧ p.length < 9223372036854775808 := by
 obtain ⟨m, hl, hf⟩ := zf9 Tryz.underlying26 h
 rw [celM] at hl
 obtain ⟨v0, v1, v2, rfl⟩ := len3 hl
 obtain ⟨l0, e0, n0, o0⟩ := zlD Tryz.underlying22 (zcF hf 0 rfl rfl celS (v := [v0]) rfl) shp_tm
 obtain ⟨a, ha⟩ := shp_iv m _ (zcF hf 1 rfl rfl celI (v := [v1, v2]) rfl)
 cases e0; cases ha
 exact ⟨l0, a.lo, a.hi, rfl, o0, n0⟩
theorem zu1 (n : Nat) (r : List V) (h : Shp Tryz.prog n 59 r) : ∃ z, r = ic z ∧ -128 ≤ z ∧ z ≤ 127 := by
 obtain ⟨z, rfl, h1⟩ := zcL Tryz.underlying59 h
 exact ⟨z, rfl, i8_of h1⟩
set_option maxRecDepth 100000 in
theorem zsK {v : V} (h1 : zgz Tryz.prog 30 v) : ∃ (p q : List Tm) (lo hi lo' hi' : Int) (s : List Int) (x y : Int), oks p ∧ p.length < 9223372036854775808 ∧ oks q ∧ q.length < 9223372036854775808 ∧ i8s s ∧ s.length < 9223372036854775808 ∧ (0 ≤ x ∧ x ≤ 65535) ∧ (0 ≤ y ∧ y ≤ 65535) ∧
  v = .agg [.slice .any (p.map Tm.cs), .int .i64 lo, .int .i64 hi, .slice .any (q.map Tm.cs), .int .i64 lo', .int .i64 hi', .slice .any (s.map ic), .int .u16 x, .int .u16 y] := by
 obtain ⟨n, us, hv, k1⟩ := arg_of (P := Tryz.prog) Tryz.underlying30 (.inl ⟨_, rfl⟩) h1
 subst hv
 obtain ⟨m, hl, hf⟩ := zf9 Tryz.underlying30 k1
 rw [celIn] at hl
 obtain ⟨v0, v1, v2, v3, v4, v5, v6, v7, v8, rfl⟩ := len9 hl
 obtain ⟨p, lo, hi, e0, o0, n0⟩ := zmV m _ (zcF hf 0 rfl rfl celM (v := [v0, v1, v2]) rfl)
 obtain ⟨q, lo', hi', e1, o1, n1⟩ := zmV m _ (zcF hf 1 rfl rfl celM (v := [v3, v4, v5]) rfl)
 obtain ⟨s, e2, n2, o2⟩ := zlD Tryz.underlying27 (zcF hf 2 rfl rfl celB (v := [v6]) rfl) zu1
 obtain ⟨x, e3, b3⟩ := zcL Tryz.underlying28 (zcF hf 3 rfl rfl cel16 (v := [v7]) rfl)
 obtain ⟨y, e4, b4⟩ := zcL Tryz.underlying28 (zcF hf 4 rfl rfl cel16 (v := [v8]) rfl)
 cases e0; cases e1; cases e2; cases e3; cases e4
 exact ⟨p, q, lo, hi, lo', hi', s, x, y, o0, n0, o1, n1, o2, n2, zsG b3, zsG b4, rfl⟩
end Go.Ab
