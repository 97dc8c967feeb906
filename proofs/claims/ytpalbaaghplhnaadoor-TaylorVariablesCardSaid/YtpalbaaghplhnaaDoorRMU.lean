/- What the laws on models are handed; conditions: none. -/
import Derived.Test.YtpalbaaghplhnaaDoorRAU
import Derived.Test.YtpalbaaghplhnaaDoorM2
set_option linter.unusedVariables false
set_option linter.unusedSimpArgs false
namespace Go.Ab
open Go.RowKit Go.ChangeShapes Go.WideShapes Go.Proofs Go.ChangeAt YtpalbaaghplhnaaDoor
theorem u8r_of {z : Int} (h : IntKind.u8.min ≤ z ∧ z ≤ IntKind.u8.max) : 0 ≤ z ∧ z ≤ 255 := by
 have e1 : IntKind.u8.min = 0 := rfl
 have e2 : IntKind.u8.max = 255 := rfl
 omega
set_option maxRecDepth 100000 in
theorem arg_iv {v : V} (h1 : zdf Tryd.prog 23 v) : ∃ (lo hi : Int), v = .agg [.int .i64 lo, .int .i64 hi] := by
 obtain ⟨n, us, hv, k1⟩ := arg_of (P := Tryd.prog) Tryd.underlying23 (.inl ⟨_, rfl⟩) h1
 obtain ⟨a, rfl⟩ := shp_iv n us k1
 exact ⟨a.lo, a.hi, hv⟩
end Go.Ab
