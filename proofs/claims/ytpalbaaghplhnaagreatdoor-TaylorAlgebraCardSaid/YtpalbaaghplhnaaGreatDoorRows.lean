/-
  NARROWER THAN 'FOR EVERY INPUT', by the rows' own cells (each row's printed sentence says how): TaylorMatchesReference: laid · TaylorConstructorsMatchReference: laid · TaylorInclusion: laid · TaylorMulIntervalInclusion: laid · TaylorRangeEncloses: laid · TaylorTruncatePreservesValues: laid · TaylorAlgebra: laid.
  DERIVED. THE GIVEN ROWS OF THIS SEAT. 7 by the template 'for every input the law returns true; each argument reads behind the call as it read before'; 0 by the template 'total and deterministic' (their statements: YtpalbaaghplhnaaGreatDoorTotals.lean).
  GIVEN WITH THE SEED: the statements are not yours to turn. If you find one false, say at which input.
  Laid BY PROGRAM, IN A SANDBOX (cutbox-rows.mjs): the forced cells as the released guide's own fill.sh prints them over the translation d2c82de7c4ce83bf… (all of the seat's roots in one cut). By AI agents, Wed Nov 11 2026. No macro, syntax, notation, axiom, sorry.
-/
import Derived.Test.YtpalbaaghplhnaaGreatDoorChecked
import GoSem.Claim
import GoSem.ClaimJoined
import GoSem.ClaimMapViews
import Derived.JoinedTies
import Derived.KernelRfl
namespace Go.Proofs.YtpalbaaghplhnaaGreatDoor
/- THE CELL 'sum', in the pinned program and in every row, IS THE sha256 OF THE DUMP (.gsa) THAT YtpalbaaghplhnaaGreatDoorProg.lean LOADS. Nothing in Lean hashes anything: it is a label: what it is worth is what the hold of that sum in a sandbox is worth. -/
noncomputable def Tryz.pinned : Pinned := { name := "ytpalbaaghplhnaagreatdoor", sum := "d2c82de7c4ce83bf78c050fccd3d6fa53a7f4643d2729da9023f85d8ba34266a", checked := Tryz.checked }
namespace Rows
def none {H : Type} : Left H := { results := [], args := [] }

/- WHAT THE LISTED PACKAGE-LEVEL VARIABLES READ AS WHEN THE CALL BEGINS. Each datum BY PROGRAM (the guide's laid-datum.mjs) off the statement by which the dump's own 'gosem.cut.vars' lays the variable. In a bare row this is a premise. The card (YtpalbaaghplhnaaGreatDoorCards.lean) ties it to the program's text. -/
def laid_armillary_interval_products {H : Type} : DataW H := .iface "func table" (.agg [.agg [.agg [.iface "func" (.lit (.string [97, 114, 109, 105, 108, 108, 97, 114, 121, 47, 105, 110, 116, 101, 114, 118, 97, 108, 46, 104, 104])), .iface "func" (.lit (.string [97, 114, 109, 105, 108, 108, 97, 114, 121, 47, 105, 110, 116, 101, 114, 118, 97, 108, 46, 108, 108]))], .agg [.iface "func" (.lit (.string [97, 114, 109, 105, 108, 108, 97, 114, 121, 47, 105, 110, 116, 101, 114, 118, 97, 108, 46, 108, 104])), .iface "func" (.lit (.string [97, 114, 109, 105, 108, 108, 97, 114, 121, 47, 105, 110, 116, 101, 114, 118, 97, 108, 46, 108, 108]))], .agg [.iface "func" (.lit (.string [97, 114, 109, 105, 108, 108, 97, 114, 121, 47, 105, 110, 116, 101, 114, 118, 97, 108, 46, 108, 104])), .iface "func" (.lit (.string [97, 114, 109, 105, 108, 108, 97, 114, 121, 47, 105, 110, 116, 101, 114, 118, 97, 108, 46, 104, 108]))]], .agg [.agg [.iface "func" (.lit (.string [97, 114, 109, 105, 108, 108, 97, 114, 121, 47, 105, 110, 116, 101, 114, 118, 97, 108, 46, 104, 108])), .iface "func" (.lit (.string [97, 114, 109, 105, 108, 108, 97, 114, 121, 47, 105, 110, 116, 101, 114, 118, 97, 108, 46, 108, 108]))], .agg [.nil, .nil], .agg [.iface "func" (.lit (.string [97, 114, 109, 105, 108, 108, 97, 114, 121, 47, 105, 110, 116, 101, 114, 118, 97, 108, 46, 108, 104])), .iface "func" (.lit (.string [97, 114, 109, 105, 108, 108, 97, 114, 121, 47, 105, 110, 116, 101, 114, 118, 97, 108, 46, 104, 104]))]], .agg [.agg [.iface "func" (.lit (.string [97, 114, 109, 105, 108, 108, 97, 114, 121, 47, 105, 110, 116, 101, 114, 118, 97, 108, 46, 104, 108])), .iface "func" (.lit (.string [97, 114, 109, 105, 108, 108, 97, 114, 121, 47, 105, 110, 116, 101, 114, 118, 97, 108, 46, 108, 104]))], .agg [.iface "func" (.lit (.string [97, 114, 109, 105, 108, 108, 97, 114, 121, 47, 105, 110, 116, 101, 114, 118, 97, 108, 46, 104, 108])), .iface "func" (.lit (.string [97, 114, 109, 105, 108, 108, 97, 114, 121, 47, 105, 110, 116, 101, 114, 118, 97, 108, 46, 104, 104]))], .agg [.iface "func" (.lit (.string [97, 114, 109, 105, 108, 108, 97, 114, 121, 47, 105, 110, 116, 101, 114, 118, 97, 108, 46, 108, 108])), .iface "func" (.lit (.string [97, 114, 109, 105, 108, 108, 97, 114, 121, 47, 105, 110, 116, 101, 114, 118, 97, 108, 46, 104, 104]))]]])

/-- 'armillarylaw06.TaylorMatchesReference': WHATEVER THE INPUT: true; the input reads as it did. -/
def taylorMatchesReferenceSpec : ChangeSpec := { name := "taylorMatchesReference", fn := fun _ => fun
  | [d1, d2, d3] => { results := [.lit (.bool true)], args := [d1, d2, d3] }
  | _ => none }
def taylorMatchesReferenceRow : OpenClaim := { program := "ytpalbaaghplhnaagreatdoor", sum := "d2c82de7c4ce83bf78c050fccd3d6fa53a7f4643d2729da9023f85d8ba34266a", func := "armillary/armillarylaw06.TaylorMatchesReference", spec := "taylorMatchesReference", unfollowed := true, recurses := true, named := ["armillary/interval.products"], plainKeys := false, apart := false, laid := [("armillary/interval.products", laid_armillary_interval_products)] }
def TaylorMatchesReferenceSaid : Prop := taylorMatchesReferenceRow.holds Tryz.pinned (OpenSpec.ofChange taylorMatchesReferenceSpec)

/-- ITS FALSE NEIGHBOUR: 'it returns false'. Refute it at one input. -/
def taylorMatchesReferenceWrong : ChangeSpec := { name := "taylorMatchesReference", fn := fun _ => fun
  | [d1, d2, d3] => { results := [.lit (.bool false)], args := [d1, d2, d3] }
  | _ => none }
def TaylorMatchesReferenceWrongFalsely : Prop := taylorMatchesReferenceRow.holds Tryz.pinned (OpenSpec.ofChange taylorMatchesReferenceWrong)

/-- 'armillarylaw06.TaylorConstructorsMatchReference': WHATEVER THE INPUT: true; the input reads as it did. -/
def taylorConstructorsMatchReferenceSpec : ChangeSpec := { name := "taylorConstructorsMatchReference", fn := fun _ => fun
  | [d1, d2, d3, d4] => { results := [.lit (.bool true)], args := [d1, d2, d3, d4] }
  | _ => none }
def taylorConstructorsMatchReferenceRow : OpenClaim := { program := "ytpalbaaghplhnaagreatdoor", sum := "d2c82de7c4ce83bf78c050fccd3d6fa53a7f4643d2729da9023f85d8ba34266a", func := "armillary/armillarylaw06.TaylorConstructorsMatchReference", spec := "taylorConstructorsMatchReference", unfollowed := true, recurses := true, named := ["armillary/interval.products"], plainKeys := false, apart := false, laid := [("armillary/interval.products", laid_armillary_interval_products)] }
def TaylorConstructorsMatchReferenceSaid : Prop := taylorConstructorsMatchReferenceRow.holds Tryz.pinned (OpenSpec.ofChange taylorConstructorsMatchReferenceSpec)

/-- ITS FALSE NEIGHBOUR: 'it returns false'. Refute it at one input. -/
def taylorConstructorsMatchReferenceWrong : ChangeSpec := { name := "taylorConstructorsMatchReference", fn := fun _ => fun
  | [d1, d2, d3, d4] => { results := [.lit (.bool false)], args := [d1, d2, d3, d4] }
  | _ => none }
def TaylorConstructorsMatchReferenceWrongFalsely : Prop := taylorConstructorsMatchReferenceRow.holds Tryz.pinned (OpenSpec.ofChange taylorConstructorsMatchReferenceWrong)

/-- 'armillarylaw06.TaylorInclusion': WHATEVER THE INPUT: true; the input reads as it did. -/
def taylorInclusionSpec : ChangeSpec := { name := "taylorInclusion", fn := fun _ => fun
  | [d1, d2] => { results := [.lit (.bool true)], args := [d1, d2] }
  | _ => none }
def taylorInclusionRow : OpenClaim := { program := "ytpalbaaghplhnaagreatdoor", sum := "d2c82de7c4ce83bf78c050fccd3d6fa53a7f4643d2729da9023f85d8ba34266a", func := "armillary/armillarylaw06.TaylorInclusion", spec := "taylorInclusion", unfollowed := true, recurses := true, named := ["armillary/interval.products"], plainKeys := false, apart := false, laid := [("armillary/interval.products", laid_armillary_interval_products)] }
def TaylorInclusionSaid : Prop := taylorInclusionRow.holds Tryz.pinned (OpenSpec.ofChange taylorInclusionSpec)

/-- ITS FALSE NEIGHBOUR: 'it returns false'. Refute it at one input. -/
def taylorInclusionWrong : ChangeSpec := { name := "taylorInclusion", fn := fun _ => fun
  | [d1, d2] => { results := [.lit (.bool false)], args := [d1, d2] }
  | _ => none }
def TaylorInclusionWrongFalsely : Prop := taylorInclusionRow.holds Tryz.pinned (OpenSpec.ofChange taylorInclusionWrong)

/-- 'armillarylaw06.TaylorMulIntervalInclusion': WHATEVER THE INPUT: true; the input reads as it did. -/
def taylorMulIntervalInclusionSpec : ChangeSpec := { name := "taylorMulIntervalInclusion", fn := fun _ => fun
  | [d1, d2] => { results := [.lit (.bool true)], args := [d1, d2] }
  | _ => none }
def taylorMulIntervalInclusionRow : OpenClaim := { program := "ytpalbaaghplhnaagreatdoor", sum := "d2c82de7c4ce83bf78c050fccd3d6fa53a7f4643d2729da9023f85d8ba34266a", func := "armillary/armillarylaw06.TaylorMulIntervalInclusion", spec := "taylorMulIntervalInclusion", unfollowed := true, recurses := true, named := ["armillary/interval.products"], plainKeys := false, apart := false, laid := [("armillary/interval.products", laid_armillary_interval_products)] }
def TaylorMulIntervalInclusionSaid : Prop := taylorMulIntervalInclusionRow.holds Tryz.pinned (OpenSpec.ofChange taylorMulIntervalInclusionSpec)

/-- ITS FALSE NEIGHBOUR: 'it returns false'. Refute it at one input. -/
def taylorMulIntervalInclusionWrong : ChangeSpec := { name := "taylorMulIntervalInclusion", fn := fun _ => fun
  | [d1, d2] => { results := [.lit (.bool false)], args := [d1, d2] }
  | _ => none }
def TaylorMulIntervalInclusionWrongFalsely : Prop := taylorMulIntervalInclusionRow.holds Tryz.pinned (OpenSpec.ofChange taylorMulIntervalInclusionWrong)

/-- 'armillarylaw06.TaylorRangeEncloses': WHATEVER THE INPUT: true; the input reads as it did. -/
def taylorRangeEnclosesSpec : ChangeSpec := { name := "taylorRangeEncloses", fn := fun _ => fun
  | [d] => { results := [.lit (.bool true)], args := [d] }
  | _ => none }
def taylorRangeEnclosesRow : OpenClaim := { program := "ytpalbaaghplhnaagreatdoor", sum := "d2c82de7c4ce83bf78c050fccd3d6fa53a7f4643d2729da9023f85d8ba34266a", func := "armillary/armillarylaw06.TaylorRangeEncloses", spec := "taylorRangeEncloses", unfollowed := true, recurses := true, named := ["armillary/interval.products"], plainKeys := false, apart := false, laid := [("armillary/interval.products", laid_armillary_interval_products)] }
def TaylorRangeEnclosesSaid : Prop := taylorRangeEnclosesRow.holds Tryz.pinned (OpenSpec.ofChange taylorRangeEnclosesSpec)

/-- ITS FALSE NEIGHBOUR: 'it returns false'. Refute it at one input. -/
def taylorRangeEnclosesWrong : ChangeSpec := { name := "taylorRangeEncloses", fn := fun _ => fun
  | [d] => { results := [.lit (.bool false)], args := [d] }
  | _ => none }
def TaylorRangeEnclosesWrongFalsely : Prop := taylorRangeEnclosesRow.holds Tryz.pinned (OpenSpec.ofChange taylorRangeEnclosesWrong)

/-- 'armillarylaw06.TaylorTruncatePreservesValues': WHATEVER THE INPUT: true; the input reads as it did. -/
def taylorTruncatePreservesValuesSpec : ChangeSpec := { name := "taylorTruncatePreservesValues", fn := fun _ => fun
  | [d1, d2] => { results := [.lit (.bool true)], args := [d1, d2] }
  | _ => none }
def taylorTruncatePreservesValuesRow : OpenClaim := { program := "ytpalbaaghplhnaagreatdoor", sum := "d2c82de7c4ce83bf78c050fccd3d6fa53a7f4643d2729da9023f85d8ba34266a", func := "armillary/armillarylaw06.TaylorTruncatePreservesValues", spec := "taylorTruncatePreservesValues", unfollowed := true, recurses := true, named := ["armillary/interval.products"], plainKeys := false, apart := false, laid := [("armillary/interval.products", laid_armillary_interval_products)] }
def TaylorTruncatePreservesValuesSaid : Prop := taylorTruncatePreservesValuesRow.holds Tryz.pinned (OpenSpec.ofChange taylorTruncatePreservesValuesSpec)

/-- ITS FALSE NEIGHBOUR: 'it returns false'. Refute it at one input. -/
def taylorTruncatePreservesValuesWrong : ChangeSpec := { name := "taylorTruncatePreservesValues", fn := fun _ => fun
  | [d1, d2] => { results := [.lit (.bool false)], args := [d1, d2] }
  | _ => none }
def TaylorTruncatePreservesValuesWrongFalsely : Prop := taylorTruncatePreservesValuesRow.holds Tryz.pinned (OpenSpec.ofChange taylorTruncatePreservesValuesWrong)

/-- 'armillarylaw06.TaylorAlgebra': WHATEVER THE INPUT: true; the input reads as it did. -/
def taylorAlgebraSpec : ChangeSpec := { name := "taylorAlgebra", fn := fun _ => fun
  | [d] => { results := [.lit (.bool true)], args := [d] }
  | _ => none }
def taylorAlgebraRow : OpenClaim := { program := "ytpalbaaghplhnaagreatdoor", sum := "d2c82de7c4ce83bf78c050fccd3d6fa53a7f4643d2729da9023f85d8ba34266a", func := "armillary/armillarylaw06.TaylorAlgebra", spec := "taylorAlgebra", unfollowed := true, recurses := true, named := ["armillary/interval.products"], plainKeys := false, apart := false, laid := [("armillary/interval.products", laid_armillary_interval_products)] }
def TaylorAlgebraSaid : Prop := taylorAlgebraRow.holds Tryz.pinned (OpenSpec.ofChange taylorAlgebraSpec)

/-- ITS FALSE NEIGHBOUR: 'it returns false'. Refute it at one input. -/
def taylorAlgebraWrong : ChangeSpec := { name := "taylorAlgebra", fn := fun _ => fun
  | [d] => { results := [.lit (.bool false)], args := [d] }
  | _ => none }
def TaylorAlgebraWrongFalsely : Prop := taylorAlgebraRow.holds Tryz.pinned (OpenSpec.ofChange taylorAlgebraWrong)

/- THE SECOND FORM. 'bulk': how many values and letters a reading holds, each counted each time it is reached (what is shared counts as often as it is met; a slice's spare places count too). A statement '..UptoSaid' is the law's where the arguments, and the package variables that the reading takes, are together of bulk at most 1048576: NARROWER than '..Said'. Prove '..Said' where nothing that the law and all that it calls make is longer than what came in: it says more and counts as full. Else prove '..UptoSaid'. A law counts once. -/
mutual
def uptoBulk {H : Type} : DataW H → Nat
  | .lit (.string bytes) => bytes.length + 1
  | .lit _ => 1
  | .nil => 1
  | .ptr d => uptoBulk d + 1
  | .slice elems spare => uptoBulkAll elems + uptoBulkAll spare + 1
  | .agg parts => uptoBulkAll parts + 1
  | .iface _ d => uptoBulk d + 1
  | .map entries => uptoBulkEntries entries + 1
  | .held _ => 1
def uptoBulkAll {H : Type} : List (DataW H) → Nat
  | [] => 0
  | d :: r => uptoBulk d + uptoBulkAll r
def uptoBulkEntries {H : Type} : List (Lit × DataW H) → Nat
  | [] => 0
  | x :: r => uptoBulkEntry x + uptoBulkEntries r
def uptoBulkEntry {H : Type} : Lit × DataW H → Nat
  | (.string bytes, d) => bytes.length + uptoBulk d + 1
  | (_, d) => uptoBulk d + 1
 end
def uptoSmall : (H : Type) → List (DataW H) → Bool := fun _ ds => decide (uptoBulkAll ds ≤ 1048576)
def OpenSpec.upto (s : _root_.Go.ChangeSpec) : _root_.Go.OpenSpec := { _root_.Go.OpenSpec.ofChange s with cond := some uptoSmall }

/-- 'armillarylaw06.TaylorMatchesReference', WHERE WHAT IT READS IS OF BULK AT MOST 1048576: true; the input reads as it did. -/
def taylorMatchesReferenceUptoRow : OpenClaim := { program := "ytpalbaaghplhnaagreatdoor", sum := "d2c82de7c4ce83bf78c050fccd3d6fa53a7f4643d2729da9023f85d8ba34266a", func := "armillary/armillarylaw06.TaylorMatchesReference", spec := "taylorMatchesReference", unfollowed := true, recurses := true, named := ["armillary/interval.products"], plainKeys := false, apart := false, laid := [("armillary/interval.products", laid_armillary_interval_products)], narrowed := true }
def TaylorMatchesReferenceUptoSaid : Prop := taylorMatchesReferenceUptoRow.holds Tryz.pinned (OpenSpec.upto taylorMatchesReferenceSpec)

/-- 'armillarylaw06.TaylorConstructorsMatchReference', WHERE WHAT IT READS IS OF BULK AT MOST 1048576: true; the input reads as it did. -/
def taylorConstructorsMatchReferenceUptoRow : OpenClaim := { program := "ytpalbaaghplhnaagreatdoor", sum := "d2c82de7c4ce83bf78c050fccd3d6fa53a7f4643d2729da9023f85d8ba34266a", func := "armillary/armillarylaw06.TaylorConstructorsMatchReference", spec := "taylorConstructorsMatchReference", unfollowed := true, recurses := true, named := ["armillary/interval.products"], plainKeys := false, apart := false, laid := [("armillary/interval.products", laid_armillary_interval_products)], narrowed := true }
def TaylorConstructorsMatchReferenceUptoSaid : Prop := taylorConstructorsMatchReferenceUptoRow.holds Tryz.pinned (OpenSpec.upto taylorConstructorsMatchReferenceSpec)

/-- 'armillarylaw06.TaylorInclusion', WHERE WHAT IT READS IS OF BULK AT MOST 1048576: true; the input reads as it did. -/
def taylorInclusionUptoRow : OpenClaim := { program := "ytpalbaaghplhnaagreatdoor", sum := "d2c82de7c4ce83bf78c050fccd3d6fa53a7f4643d2729da9023f85d8ba34266a", func := "armillary/armillarylaw06.TaylorInclusion", spec := "taylorInclusion", unfollowed := true, recurses := true, named := ["armillary/interval.products"], plainKeys := false, apart := false, laid := [("armillary/interval.products", laid_armillary_interval_products)], narrowed := true }
def TaylorInclusionUptoSaid : Prop := taylorInclusionUptoRow.holds Tryz.pinned (OpenSpec.upto taylorInclusionSpec)

/-- 'armillarylaw06.TaylorMulIntervalInclusion', WHERE WHAT IT READS IS OF BULK AT MOST 1048576: true; the input reads as it did. -/
def taylorMulIntervalInclusionUptoRow : OpenClaim := { program := "ytpalbaaghplhnaagreatdoor", sum := "d2c82de7c4ce83bf78c050fccd3d6fa53a7f4643d2729da9023f85d8ba34266a", func := "armillary/armillarylaw06.TaylorMulIntervalInclusion", spec := "taylorMulIntervalInclusion", unfollowed := true, recurses := true, named := ["armillary/interval.products"], plainKeys := false, apart := false, laid := [("armillary/interval.products", laid_armillary_interval_products)], narrowed := true }
def TaylorMulIntervalInclusionUptoSaid : Prop := taylorMulIntervalInclusionUptoRow.holds Tryz.pinned (OpenSpec.upto taylorMulIntervalInclusionSpec)

/-- 'armillarylaw06.TaylorRangeEncloses', WHERE WHAT IT READS IS OF BULK AT MOST 1048576: true; the input reads as it did. -/
def taylorRangeEnclosesUptoRow : OpenClaim := { program := "ytpalbaaghplhnaagreatdoor", sum := "d2c82de7c4ce83bf78c050fccd3d6fa53a7f4643d2729da9023f85d8ba34266a", func := "armillary/armillarylaw06.TaylorRangeEncloses", spec := "taylorRangeEncloses", unfollowed := true, recurses := true, named := ["armillary/interval.products"], plainKeys := false, apart := false, laid := [("armillary/interval.products", laid_armillary_interval_products)], narrowed := true }
def TaylorRangeEnclosesUptoSaid : Prop := taylorRangeEnclosesUptoRow.holds Tryz.pinned (OpenSpec.upto taylorRangeEnclosesSpec)

/-- 'armillarylaw06.TaylorTruncatePreservesValues', WHERE WHAT IT READS IS OF BULK AT MOST 1048576: true; the input reads as it did. -/
def taylorTruncatePreservesValuesUptoRow : OpenClaim := { program := "ytpalbaaghplhnaagreatdoor", sum := "d2c82de7c4ce83bf78c050fccd3d6fa53a7f4643d2729da9023f85d8ba34266a", func := "armillary/armillarylaw06.TaylorTruncatePreservesValues", spec := "taylorTruncatePreservesValues", unfollowed := true, recurses := true, named := ["armillary/interval.products"], plainKeys := false, apart := false, laid := [("armillary/interval.products", laid_armillary_interval_products)], narrowed := true }
def TaylorTruncatePreservesValuesUptoSaid : Prop := taylorTruncatePreservesValuesUptoRow.holds Tryz.pinned (OpenSpec.upto taylorTruncatePreservesValuesSpec)

/-- 'armillarylaw06.TaylorAlgebra', WHERE WHAT IT READS IS OF BULK AT MOST 1048576: true; the input reads as it did. -/
def taylorAlgebraUptoRow : OpenClaim := { program := "ytpalbaaghplhnaagreatdoor", sum := "d2c82de7c4ce83bf78c050fccd3d6fa53a7f4643d2729da9023f85d8ba34266a", func := "armillary/armillarylaw06.TaylorAlgebra", spec := "taylorAlgebra", unfollowed := true, recurses := true, named := ["armillary/interval.products"], plainKeys := false, apart := false, laid := [("armillary/interval.products", laid_armillary_interval_products)], narrowed := true }
def TaylorAlgebraUptoSaid : Prop := taylorAlgebraUptoRow.holds Tryz.pinned (OpenSpec.upto taylorAlgebraSpec)

end Rows
end Go.Proofs.YtpalbaaghplhnaaGreatDoor
