/- What the laws are handed: pairs of polynomials, boxes, six small numbers. -/
import Derived.Test.YthjhgegilibadaaDoorRAD
namespace Go.Ab
set_option linter.unusedVariables false
set_option linter.unusedSimpArgs false
set_option linter.unusedSimpArgs false
set_option linter.unusedVariables false
open Go.RowKit Go.ChangeShapes Go.WideShapes Go.Proofs Go.ChangeAt YthjhgegilibadaaDoor
theorem celO : Tryd.prog.cellsOf 25 = 4 := by kernel_rfl
set_option maxRecDepth 100000 in
theorem arg_operands {v : V} (h1 : ArgShp Tryd.prog 25 v) : ∃ (a b : List Tm) (c n : Int), oks a ∧ oks b ∧ a.length < 9223372036854775808 ∧ b.length < 9223372036854775808 ∧ (-128 ≤ n ∧ n ≤ 127) ∧ (-9223372036854775808 ≤ c ∧ c ≤ 9223372036854775807) ∧
    v = .agg [.slice .any (a.map Tm.cs), .slice .any (b.map Tm.cs), .int .i64 c, .int .i8 n] := by
  obtain ⟨n, us, hv, k1⟩ := arg_of (P := Tryd.prog) Tryd.underlying25 (.inl ⟨_, rfl⟩) h1
  subst hv
  obtain ⟨m, hl, hf⟩ := shp_struct Tryd.underlying25 k1
  rw [celO] at hl
  obtain ⟨v0, v1, v2, v3, rfl⟩ := len4 hl
  obtain ⟨l0, e0, n0, o0⟩ := shp_sliceL Tryd.underlying22 (shp_cell hf 0 rfl rfl celS (v := [v0]) rfl) shp_tm
  obtain ⟨l1, e1, n1, o1⟩ := shp_sliceL Tryd.underlying22 (shp_cell hf 1 rfl rfl celS (v := [v1]) rfl) shp_tm
  obtain ⟨z2, e2, a1, a2⟩ := shp_int Tryd.underlying2 (shp_cell hf 2 rfl rfl cel2 (v := [v2]) rfl)
  obtain ⟨z3, e3, b1⟩ := shp_int Tryd.underlying23 (shp_cell hf 3 rfl rfl cel23 (v := [v3]) rfl)
  cases e0; cases e1; cases e2; cases e3
  have hb := i8_of b1
  have m1 : IntKind.i64.min = -9223372036854775808 := rfl
  have m2 : IntKind.i64.max = 9223372036854775807 := rfl
  exact ⟨l0, l1, z2, z3, o0, o1, n0, n1, hb, ⟨by omega, by omega⟩, rfl⟩
theorem celN : Tryd.prog.cellsOf 48 = 6 := by kernel_rfl
theorem shp_i8 (n : Nat) (r : List V) (h : Shp Tryd.prog n 23 r) : ∃ z, r = [.int .i8 z] ∧ -128 ≤ z ∧ z ≤ 127 := by
  obtain ⟨z, rfl, h1⟩ := shp_int Tryd.underlying23 h
  exact ⟨z, rfl, i8_of h1⟩
set_option maxRecDepth 100000 in
theorem arg_six {v : V} (h1 : ArgShp Tryd.prog 48 v) : ∃ a b c d e f : Int, v = .agg [.int .i8 a, .int .i8 b, .int .i8 c, .int .i8 d, .int .i8 e, .int .i8 f] ∧ ((-128 ≤ a ∧ a ≤ 127) ∧ (-128 ≤ b ∧ b ≤ 127) ∧ (-128 ≤ c ∧ c ≤ 127) ∧ (-128 ≤ d ∧ d ≤ 127) ∧ (-128 ≤ e ∧ e ≤ 127) ∧ (-128 ≤ f ∧ f ≤ 127)) := by
  obtain ⟨n, us, hv, k1⟩ := arg_of (P := Tryd.prog) Tryd.underlying48 (.inr ⟨_, _, rfl⟩) h1
  subst hv
  obtain ⟨m, hl, hf⟩ := shp_array Tryd.underlying48 k1
  rw [celN] at hl
  rw [cel23] at hf
  obtain ⟨v0, v1, v2, v3, v4, v5, rfl⟩ := len6 hl
  obtain ⟨a, ha, ba⟩ := shp_i8 m _ (hf 0 (by decide))
  obtain ⟨b, hb, bb⟩ := shp_i8 m _ (hf 1 (by decide))
  obtain ⟨c, hc, bc⟩ := shp_i8 m _ (hf 2 (by decide))
  obtain ⟨d, hd, bd⟩ := shp_i8 m _ (hf 3 (by decide))
  obtain ⟨e, he, be⟩ := shp_i8 m _ (hf 4 (by decide))
  obtain ⟨f, hf', bf⟩ := shp_i8 m _ (hf 5 (by decide))
  cases ha; cases hb; cases hc; cases hd; cases he; cases hf'
  exact ⟨a, b, c, d, e, f, rfl, ba, bb, bc, bd, be, bf⟩
end Go.Ab
