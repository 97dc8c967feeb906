/-
  DERIVED. GIVEN WITH THE SEED: THE PROGRAM's TIES (one call each: nine closed facts by the kernel) AND EACH ROW's TIE, after the 31st guide's Derived/Test/Toyas{Tie, Card}.lean. No idea stands in it: it is a product of the set-up. Laid BY PROGRAM, IN A SANDBOX (cutbox-door.mjs). By AI agents, Wed Nov 11 2026. No macro, syntax, notation, axiom, sorry.
-/
import Derived.Test.YtpalbaaghplhnaaGreatDoorRows
import Derived.LaidByTextLater
import Derived.SevenTiedAt
import Derived.LaidSub
import Derived.LaidOnce
namespace Go.Proofs.YtpalbaaghplhnaaGreatDoor
open Go
set_option maxRecDepth 100000
theorem seatTie1 : Tryz.prog.laidByTextLater [("armillary/interval.products", Rows.laid_armillary_interval_products)] [.funcs] true :=
  Program.laidByTextLater_by_one 26 8 2 (by kernel_rfl) (by kernel_rfl) (by kernel_rfl) (by kernel_rfl) (by kernel_rfl) (by kernel_rfl) (fun _ _ => by kernel_rfl)
theorem noOwnUnsafe : Tryz.pinned.checked.prog.headLifts.contains "ownunsafe" = false := by kernel_rfl
theorem tie : Tryz.prog.laidByTextLater [("armillary/interval.products", Rows.laid_armillary_interval_products)] [.funcs] true :=
  Program.laidByTextLater.sub seatTie1 ["armillary/interval.products"] (by kernel_rfl) (by kernel_rfl)
theorem taylorMatchesReference_row_tie : Rows.taylorMatchesReferenceRow.laidByTextAt .later Tryz.pinned [.funcs] true :=
  OpenClaim.laidByTextAt_later rfl rfl tie noOwnUnsafe
theorem taylorConstructorsMatchReference_row_tie : Rows.taylorConstructorsMatchReferenceRow.laidByTextAt .later Tryz.pinned [.funcs] true :=
  OpenClaim.laidByTextAt_later rfl rfl tie noOwnUnsafe
theorem taylorInclusion_row_tie : Rows.taylorInclusionRow.laidByTextAt .later Tryz.pinned [.funcs] true :=
  OpenClaim.laidByTextAt_later rfl rfl tie noOwnUnsafe
theorem taylorMulIntervalInclusion_row_tie : Rows.taylorMulIntervalInclusionRow.laidByTextAt .later Tryz.pinned [.funcs] true :=
  OpenClaim.laidByTextAt_later rfl rfl tie noOwnUnsafe
theorem taylorRangeEncloses_row_tie : Rows.taylorRangeEnclosesRow.laidByTextAt .later Tryz.pinned [.funcs] true :=
  OpenClaim.laidByTextAt_later rfl rfl tie noOwnUnsafe
theorem taylorTruncatePreservesValues_row_tie : Rows.taylorTruncatePreservesValuesRow.laidByTextAt .later Tryz.pinned [.funcs] true :=
  OpenClaim.laidByTextAt_later rfl rfl tie noOwnUnsafe
theorem taylorAlgebra_row_tie : Rows.taylorAlgebraRow.laidByTextAt .later Tryz.pinned [.funcs] true :=
  OpenClaim.laidByTextAt_later rfl rfl tie noOwnUnsafe
theorem taylorMatchesReferenceUpto_row_tie : Rows.taylorMatchesReferenceUptoRow.laidByTextAt .later Tryz.pinned [.funcs] true :=
  OpenClaim.laidByTextAt_later rfl rfl tie noOwnUnsafe
theorem taylorConstructorsMatchReferenceUpto_row_tie : Rows.taylorConstructorsMatchReferenceUptoRow.laidByTextAt .later Tryz.pinned [.funcs] true :=
  OpenClaim.laidByTextAt_later rfl rfl tie noOwnUnsafe
theorem taylorInclusionUpto_row_tie : Rows.taylorInclusionUptoRow.laidByTextAt .later Tryz.pinned [.funcs] true :=
  OpenClaim.laidByTextAt_later rfl rfl tie noOwnUnsafe
theorem taylorMulIntervalInclusionUpto_row_tie : Rows.taylorMulIntervalInclusionUptoRow.laidByTextAt .later Tryz.pinned [.funcs] true :=
  OpenClaim.laidByTextAt_later rfl rfl tie noOwnUnsafe
theorem taylorRangeEnclosesUpto_row_tie : Rows.taylorRangeEnclosesUptoRow.laidByTextAt .later Tryz.pinned [.funcs] true :=
  OpenClaim.laidByTextAt_later rfl rfl tie noOwnUnsafe
theorem taylorTruncatePreservesValuesUpto_row_tie : Rows.taylorTruncatePreservesValuesUptoRow.laidByTextAt .later Tryz.pinned [.funcs] true :=
  OpenClaim.laidByTextAt_later rfl rfl tie noOwnUnsafe
theorem taylorAlgebraUpto_row_tie : Rows.taylorAlgebraUptoRow.laidByTextAt .later Tryz.pinned [.funcs] true :=
  OpenClaim.laidByTextAt_later rfl rfl tie noOwnUnsafe
end Go.Proofs.YtpalbaaghplhnaaGreatDoor
