/-
  DERIVED. GIVEN WITH THE SEED: THE CARDS: each row of YtpalbaaghplhnaaGreatDoorRows.lean that lists a variable, with what it lists TIED to the program's text (the seventh form; the later family's looks); each row that meets fmt, with fmt's text TOLD by the authors' own Lean function (tested against real Go, not proved from fmt's source: count such statements apart). THE CARD IS WHAT COUNTS. Prove the row's statement (the work); the ties are given (YtpalbaaghplhnaaGreatDoorTie.lean); close each card by the builder's one call (the guide's Derived/Test/ToyasCard.lean, 'card_holds'). Laid BY PROGRAM, IN A SANDBOX (cutbox-door.mjs). By AI agents, Wed Nov 11 2026. No macro, syntax, notation, axiom, sorry.
-/
import Derived.Test.YtpalbaaghplhnaaGreatDoorRows
import GoSem.ClaimSeven
namespace Go.Proofs.YtpalbaaghplhnaaGreatDoor
namespace Rows

/-- THE TIED CARD OF 'armillarylaw06.TaylorMatchesReference'. -/
def taylorMatchesReferenceCard : Claim7 := { stood := { row := taylorMatchesReferenceRow, standIns := [], harness := (true, "b266c1701eeb7601fbdb96dd2f3ea904f9b70c7265f6b0a46fb374e80c0fdfef"), looks := false }, kinds := [], alts := [], laidByText := true, laidKinds := [.funcs], laidTests := true, laidLooks := .later }
def TaylorMatchesReferenceCardSaid : Prop := Claim7.holds Tryz.pinned (.plain (OpenSpec.ofChange taylorMatchesReferenceSpec)) taylorMatchesReferenceCard

/-- THE TIED CARD OF 'armillarylaw06.TaylorConstructorsMatchReference'. -/
def taylorConstructorsMatchReferenceCard : Claim7 := { stood := { row := taylorConstructorsMatchReferenceRow, standIns := [], harness := (true, "b266c1701eeb7601fbdb96dd2f3ea904f9b70c7265f6b0a46fb374e80c0fdfef"), looks := false }, kinds := [], alts := [], laidByText := true, laidKinds := [.funcs], laidTests := true, laidLooks := .later }
def TaylorConstructorsMatchReferenceCardSaid : Prop := Claim7.holds Tryz.pinned (.plain (OpenSpec.ofChange taylorConstructorsMatchReferenceSpec)) taylorConstructorsMatchReferenceCard

/-- THE TIED CARD OF 'armillarylaw06.TaylorInclusion'. -/
def taylorInclusionCard : Claim7 := { stood := { row := taylorInclusionRow, standIns := [], harness := (true, "b266c1701eeb7601fbdb96dd2f3ea904f9b70c7265f6b0a46fb374e80c0fdfef"), looks := false }, kinds := [], alts := [], laidByText := true, laidKinds := [.funcs], laidTests := true, laidLooks := .later }
def TaylorInclusionCardSaid : Prop := Claim7.holds Tryz.pinned (.plain (OpenSpec.ofChange taylorInclusionSpec)) taylorInclusionCard

/-- THE TIED CARD OF 'armillarylaw06.TaylorMulIntervalInclusion'. -/
def taylorMulIntervalInclusionCard : Claim7 := { stood := { row := taylorMulIntervalInclusionRow, standIns := [], harness := (true, "b266c1701eeb7601fbdb96dd2f3ea904f9b70c7265f6b0a46fb374e80c0fdfef"), looks := false }, kinds := [], alts := [], laidByText := true, laidKinds := [.funcs], laidTests := true, laidLooks := .later }
def TaylorMulIntervalInclusionCardSaid : Prop := Claim7.holds Tryz.pinned (.plain (OpenSpec.ofChange taylorMulIntervalInclusionSpec)) taylorMulIntervalInclusionCard

/-- THE TIED CARD OF 'armillarylaw06.TaylorRangeEncloses'. -/
def taylorRangeEnclosesCard : Claim7 := { stood := { row := taylorRangeEnclosesRow, standIns := [], harness := (true, "b266c1701eeb7601fbdb96dd2f3ea904f9b70c7265f6b0a46fb374e80c0fdfef"), looks := false }, kinds := [], alts := [], laidByText := true, laidKinds := [.funcs], laidTests := true, laidLooks := .later }
def TaylorRangeEnclosesCardSaid : Prop := Claim7.holds Tryz.pinned (.plain (OpenSpec.ofChange taylorRangeEnclosesSpec)) taylorRangeEnclosesCard

/-- THE TIED CARD OF 'armillarylaw06.TaylorTruncatePreservesValues'. -/
def taylorTruncatePreservesValuesCard : Claim7 := { stood := { row := taylorTruncatePreservesValuesRow, standIns := [], harness := (true, "b266c1701eeb7601fbdb96dd2f3ea904f9b70c7265f6b0a46fb374e80c0fdfef"), looks := false }, kinds := [], alts := [], laidByText := true, laidKinds := [.funcs], laidTests := true, laidLooks := .later }
def TaylorTruncatePreservesValuesCardSaid : Prop := Claim7.holds Tryz.pinned (.plain (OpenSpec.ofChange taylorTruncatePreservesValuesSpec)) taylorTruncatePreservesValuesCard

/-- THE TIED CARD OF 'armillarylaw06.TaylorAlgebra'. -/
def taylorAlgebraCard : Claim7 := { stood := { row := taylorAlgebraRow, standIns := [], harness := (true, "b266c1701eeb7601fbdb96dd2f3ea904f9b70c7265f6b0a46fb374e80c0fdfef"), looks := false }, kinds := [], alts := [], laidByText := true, laidKinds := [.funcs], laidTests := true, laidLooks := .later }
def TaylorAlgebraCardSaid : Prop := Claim7.holds Tryz.pinned (.plain (OpenSpec.ofChange taylorAlgebraSpec)) taylorAlgebraCard

/-- THE SECOND FORM's CARD OF 'armillarylaw06.TaylorMatchesReference'. -/
def taylorMatchesReferenceUptoCard : Claim7 := { stood := { row := taylorMatchesReferenceUptoRow, standIns := [], harness := (true, "b266c1701eeb7601fbdb96dd2f3ea904f9b70c7265f6b0a46fb374e80c0fdfef"), looks := false }, kinds := [], alts := [], laidByText := true, laidKinds := [.funcs], laidTests := true, laidLooks := .later }
def TaylorMatchesReferenceUptoCardSaid : Prop := Claim7.holds Tryz.pinned (.plain (OpenSpec.upto taylorMatchesReferenceSpec)) taylorMatchesReferenceUptoCard

/-- THE SECOND FORM's CARD OF 'armillarylaw06.TaylorConstructorsMatchReference'. -/
def taylorConstructorsMatchReferenceUptoCard : Claim7 := { stood := { row := taylorConstructorsMatchReferenceUptoRow, standIns := [], harness := (true, "b266c1701eeb7601fbdb96dd2f3ea904f9b70c7265f6b0a46fb374e80c0fdfef"), looks := false }, kinds := [], alts := [], laidByText := true, laidKinds := [.funcs], laidTests := true, laidLooks := .later }
def TaylorConstructorsMatchReferenceUptoCardSaid : Prop := Claim7.holds Tryz.pinned (.plain (OpenSpec.upto taylorConstructorsMatchReferenceSpec)) taylorConstructorsMatchReferenceUptoCard

/-- THE SECOND FORM's CARD OF 'armillarylaw06.TaylorInclusion'. -/
def taylorInclusionUptoCard : Claim7 := { stood := { row := taylorInclusionUptoRow, standIns := [], harness := (true, "b266c1701eeb7601fbdb96dd2f3ea904f9b70c7265f6b0a46fb374e80c0fdfef"), looks := false }, kinds := [], alts := [], laidByText := true, laidKinds := [.funcs], laidTests := true, laidLooks := .later }
def TaylorInclusionUptoCardSaid : Prop := Claim7.holds Tryz.pinned (.plain (OpenSpec.upto taylorInclusionSpec)) taylorInclusionUptoCard

/-- THE SECOND FORM's CARD OF 'armillarylaw06.TaylorMulIntervalInclusion'. -/
def taylorMulIntervalInclusionUptoCard : Claim7 := { stood := { row := taylorMulIntervalInclusionUptoRow, standIns := [], harness := (true, "b266c1701eeb7601fbdb96dd2f3ea904f9b70c7265f6b0a46fb374e80c0fdfef"), looks := false }, kinds := [], alts := [], laidByText := true, laidKinds := [.funcs], laidTests := true, laidLooks := .later }
def TaylorMulIntervalInclusionUptoCardSaid : Prop := Claim7.holds Tryz.pinned (.plain (OpenSpec.upto taylorMulIntervalInclusionSpec)) taylorMulIntervalInclusionUptoCard

/-- THE SECOND FORM's CARD OF 'armillarylaw06.TaylorRangeEncloses'. -/
def taylorRangeEnclosesUptoCard : Claim7 := { stood := { row := taylorRangeEnclosesUptoRow, standIns := [], harness := (true, "b266c1701eeb7601fbdb96dd2f3ea904f9b70c7265f6b0a46fb374e80c0fdfef"), looks := false }, kinds := [], alts := [], laidByText := true, laidKinds := [.funcs], laidTests := true, laidLooks := .later }
def TaylorRangeEnclosesUptoCardSaid : Prop := Claim7.holds Tryz.pinned (.plain (OpenSpec.upto taylorRangeEnclosesSpec)) taylorRangeEnclosesUptoCard

/-- THE SECOND FORM's CARD OF 'armillarylaw06.TaylorTruncatePreservesValues'. -/
def taylorTruncatePreservesValuesUptoCard : Claim7 := { stood := { row := taylorTruncatePreservesValuesUptoRow, standIns := [], harness := (true, "b266c1701eeb7601fbdb96dd2f3ea904f9b70c7265f6b0a46fb374e80c0fdfef"), looks := false }, kinds := [], alts := [], laidByText := true, laidKinds := [.funcs], laidTests := true, laidLooks := .later }
def TaylorTruncatePreservesValuesUptoCardSaid : Prop := Claim7.holds Tryz.pinned (.plain (OpenSpec.upto taylorTruncatePreservesValuesSpec)) taylorTruncatePreservesValuesUptoCard

/-- THE SECOND FORM's CARD OF 'armillarylaw06.TaylorAlgebra'. -/
def taylorAlgebraUptoCard : Claim7 := { stood := { row := taylorAlgebraUptoRow, standIns := [], harness := (true, "b266c1701eeb7601fbdb96dd2f3ea904f9b70c7265f6b0a46fb374e80c0fdfef"), looks := false }, kinds := [], alts := [], laidByText := true, laidKinds := [.funcs], laidTests := true, laidLooks := .later }
def TaylorAlgebraUptoCardSaid : Prop := Claim7.holds Tryz.pinned (.plain (OpenSpec.upto taylorAlgebraSpec)) taylorAlgebraUptoCard
end Rows
end Go.Proofs.YtpalbaaghplhnaaGreatDoor
