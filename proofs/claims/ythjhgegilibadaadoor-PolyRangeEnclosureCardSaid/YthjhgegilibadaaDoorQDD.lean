/- The statement that all functions agree with the reference answers true; conditions: bytes; lengths of slices. -/
import Derived.Test.YthjhgegilibadaaDoorQ2
import Derived.Test.YthjhgegilibadaaDoorP0
namespace Go.Ab
set_option linter.unusedVariables false
set_option linter.unusedSimpArgs false
set_option linter.unusedSimpArgs false
set_option linter.unusedVariables false
/-- What a polynomial that was made is. -/
structure Pol (p : List Tm) : Prop where
  ok : oks p
  nm : nums p
  st : sortedP p
  fi : fines p
  ln : p.length ≤ 100
theorem pol_of {p : List Tm} (h : oks p) (hv : validP p) : Pol p := ⟨h, fun t ht => (hv.1 t ht).1, hv.2.1, hv.1, hv.2.2⟩
theorem pol_made (p : List Tm) (most size : Int) : Pol (madeP p most size) := pol_of (madeP_ok p most size).1 (madeP_ok p most size).2.1
theorem iv_self (v : Iv) : (CW GD LD).p (.func 22) [.agg [.int .i64 v.lo, .int .i64 v.hi], .agg [.int .i64 v.lo, .int .i64 v.hi]] = some (.bool true) := by
  rw [p22]; simp
end Go.Ab
