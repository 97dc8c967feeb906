/-
  NARROWER THAN 'FOR EVERY INPUT', by the rows' own cells (each row's printed sentence says how): PolyMatchesReference: laid · PolySumExact: laid · PolyRangeEnclosure: laid · PolyEvalIsotonic: laid · PolyTruncatedProduct: laid.
  DERIVED. THE GIVEN ROWS OF THIS SEAT. 5 by the template 'for every input the law returns true; each argument reads behind the call as it read before'; 0 by the template 'total and deterministic' (their statements: YthjhgegilibadaaDoorTotals.lean).
  GIVEN WITH THE SEED: the statements are not yours to turn. If you find one false, say at which input.
  Laid BY PROGRAM, IN A SANDBOX (cutbox-rows.mjs): the forced cells as the released guide's own fill.sh prints them over the translation 9a4c483398f587dd… (all of the seat's roots in one cut). By AI agents, Wed Nov 11 2026. No macro, syntax, notation, axiom, sorry.
-/
import Derived.Test.YthjhgegilibadaaDoorChecked
import GoSem.Claim
import GoSem.ClaimJoined
import GoSem.ClaimMapViews
import Derived.JoinedTies
import Derived.KernelRfl
namespace Go.Proofs.YthjhgegilibadaaDoor
/- THE CELL 'sum', in the pinned program and in every row, IS THE sha256 OF THE DUMP (.gsa) THAT YthjhgegilibadaaDoorProg.lean LOADS. Nothing in Lean hashes anything: it is a label: what it is worth is what the hold of that sum in a sandbox is worth. -/
noncomputable def Tryd.pinned : Pinned := { name := "ythjhgegilibadaadoor", sum := "9a4c483398f587dd01f159ea177010aa0ad39ca4a55899debca66e076888570a", checked := Tryd.checked }
namespace Rows
def none {H : Type} : Left H := { results := [], args := [] }

/- WHAT THE LISTED PACKAGE-LEVEL VARIABLES READ AS WHEN THE CALL BEGINS. Each datum BY PROGRAM (the guide's laid-datum.mjs) off the statement by which the dump's own 'gosem.cut.vars' lays the variable. In a bare row this is a premise. The card (YthjhgegilibadaaDoorCards.lean) ties it to the program's text. -/
def laid_armillary_interval_products {H : Type} : DataW H := .iface "func table" (.agg [.agg [.agg [.iface "func" (.lit (.string [97, 114, 109, 105, 108, 108, 97, 114, 121, 47, 105, 110, 116, 101, 114, 118, 97, 108, 46, 104, 104])), .iface "func" (.lit (.string [97, 114, 109, 105, 108, 108, 97, 114, 121, 47, 105, 110, 116, 101, 114, 118, 97, 108, 46, 108, 108]))], .agg [.iface "func" (.lit (.string [97, 114, 109, 105, 108, 108, 97, 114, 121, 47, 105, 110, 116, 101, 114, 118, 97, 108, 46, 108, 104])), .iface "func" (.lit (.string [97, 114, 109, 105, 108, 108, 97, 114, 121, 47, 105, 110, 116, 101, 114, 118, 97, 108, 46, 108, 108]))], .agg [.iface "func" (.lit (.string [97, 114, 109, 105, 108, 108, 97, 114, 121, 47, 105, 110, 116, 101, 114, 118, 97, 108, 46, 108, 104])), .iface "func" (.lit (.string [97, 114, 109, 105, 108, 108, 97, 114, 121, 47, 105, 110, 116, 101, 114, 118, 97, 108, 46, 104, 108]))]], .agg [.agg [.iface "func" (.lit (.string [97, 114, 109, 105, 108, 108, 97, 114, 121, 47, 105, 110, 116, 101, 114, 118, 97, 108, 46, 104, 108])), .iface "func" (.lit (.string [97, 114, 109, 105, 108, 108, 97, 114, 121, 47, 105, 110, 116, 101, 114, 118, 97, 108, 46, 108, 108]))], .agg [.nil, .nil], .agg [.iface "func" (.lit (.string [97, 114, 109, 105, 108, 108, 97, 114, 121, 47, 105, 110, 116, 101, 114, 118, 97, 108, 46, 108, 104])), .iface "func" (.lit (.string [97, 114, 109, 105, 108, 108, 97, 114, 121, 47, 105, 110, 116, 101, 114, 118, 97, 108, 46, 104, 104]))]], .agg [.agg [.iface "func" (.lit (.string [97, 114, 109, 105, 108, 108, 97, 114, 121, 47, 105, 110, 116, 101, 114, 118, 97, 108, 46, 104, 108])), .iface "func" (.lit (.string [97, 114, 109, 105, 108, 108, 97, 114, 121, 47, 105, 110, 116, 101, 114, 118, 97, 108, 46, 108, 104]))], .agg [.iface "func" (.lit (.string [97, 114, 109, 105, 108, 108, 97, 114, 121, 47, 105, 110, 116, 101, 114, 118, 97, 108, 46, 104, 108])), .iface "func" (.lit (.string [97, 114, 109, 105, 108, 108, 97, 114, 121, 47, 105, 110, 116, 101, 114, 118, 97, 108, 46, 104, 104]))], .agg [.iface "func" (.lit (.string [97, 114, 109, 105, 108, 108, 97, 114, 121, 47, 105, 110, 116, 101, 114, 118, 97, 108, 46, 108, 108])), .iface "func" (.lit (.string [97, 114, 109, 105, 108, 108, 97, 114, 121, 47, 105, 110, 116, 101, 114, 118, 97, 108, 46, 104, 104]))]]])

/-- 'armillarylaw05.PolyMatchesReference': WHATEVER THE INPUT: true; the input reads as it did. -/
def polyMatchesReferenceSpec : ChangeSpec := { name := "polyMatchesReference", fn := fun _ => fun
  | [d1, d2] => { results := [.lit (.bool true)], args := [d1, d2] }
  | _ => none }
def polyMatchesReferenceRow : OpenClaim := { program := "ythjhgegilibadaadoor", sum := "9a4c483398f587dd01f159ea177010aa0ad39ca4a55899debca66e076888570a", func := "armillary/armillarylaw05.PolyMatchesReference", spec := "polyMatchesReference", unfollowed := true, recurses := true, named := ["armillary/interval.products"], plainKeys := false, apart := false, laid := [("armillary/interval.products", laid_armillary_interval_products)] }
def PolyMatchesReferenceSaid : Prop := polyMatchesReferenceRow.holds Tryd.pinned (OpenSpec.ofChange polyMatchesReferenceSpec)

/-- ITS FALSE NEIGHBOUR: 'it returns false'. Refute it at one input. -/
def polyMatchesReferenceWrong : ChangeSpec := { name := "polyMatchesReference", fn := fun _ => fun
  | [d1, d2] => { results := [.lit (.bool false)], args := [d1, d2] }
  | _ => none }
def PolyMatchesReferenceWrongFalsely : Prop := polyMatchesReferenceRow.holds Tryd.pinned (OpenSpec.ofChange polyMatchesReferenceWrong)

/-- 'armillarylaw05.PolySumExact': WHATEVER THE INPUT: true; the input reads as it did. -/
def polySumExactSpec : ChangeSpec := { name := "polySumExact", fn := fun _ => fun
  | [d1, d2] => { results := [.lit (.bool true)], args := [d1, d2] }
  | _ => none }
def polySumExactRow : OpenClaim := { program := "ythjhgegilibadaadoor", sum := "9a4c483398f587dd01f159ea177010aa0ad39ca4a55899debca66e076888570a", func := "armillary/armillarylaw05.PolySumExact", spec := "polySumExact", unfollowed := true, recurses := true, named := ["armillary/interval.products"], plainKeys := false, apart := false, laid := [("armillary/interval.products", laid_armillary_interval_products)] }
def PolySumExactSaid : Prop := polySumExactRow.holds Tryd.pinned (OpenSpec.ofChange polySumExactSpec)

/-- ITS FALSE NEIGHBOUR: 'it returns false'. Refute it at one input. -/
def polySumExactWrong : ChangeSpec := { name := "polySumExact", fn := fun _ => fun
  | [d1, d2] => { results := [.lit (.bool false)], args := [d1, d2] }
  | _ => none }
def PolySumExactWrongFalsely : Prop := polySumExactRow.holds Tryd.pinned (OpenSpec.ofChange polySumExactWrong)

/-- 'armillarylaw05.PolyRangeEnclosure': WHATEVER THE INPUT: true; the input reads as it did. -/
def polyRangeEnclosureSpec : ChangeSpec := { name := "polyRangeEnclosure", fn := fun _ => fun
  | [d1, d2, d3] => { results := [.lit (.bool true)], args := [d1, d2, d3] }
  | _ => none }
def polyRangeEnclosureRow : OpenClaim := { program := "ythjhgegilibadaadoor", sum := "9a4c483398f587dd01f159ea177010aa0ad39ca4a55899debca66e076888570a", func := "armillary/armillarylaw05.PolyRangeEnclosure", spec := "polyRangeEnclosure", unfollowed := true, recurses := true, named := ["armillary/interval.products"], plainKeys := false, apart := false, laid := [("armillary/interval.products", laid_armillary_interval_products)] }
def PolyRangeEnclosureSaid : Prop := polyRangeEnclosureRow.holds Tryd.pinned (OpenSpec.ofChange polyRangeEnclosureSpec)

/-- ITS FALSE NEIGHBOUR: 'it returns false'. Refute it at one input. -/
def polyRangeEnclosureWrong : ChangeSpec := { name := "polyRangeEnclosure", fn := fun _ => fun
  | [d1, d2, d3] => { results := [.lit (.bool false)], args := [d1, d2, d3] }
  | _ => none }
def PolyRangeEnclosureWrongFalsely : Prop := polyRangeEnclosureRow.holds Tryd.pinned (OpenSpec.ofChange polyRangeEnclosureWrong)

/-- 'armillarylaw05.PolyEvalIsotonic': WHATEVER THE INPUT: true; the input reads as it did. -/
def polyEvalIsotonicSpec : ChangeSpec := { name := "polyEvalIsotonic", fn := fun _ => fun
  | [d1, d2, d3] => { results := [.lit (.bool true)], args := [d1, d2, d3] }
  | _ => none }
def polyEvalIsotonicRow : OpenClaim := { program := "ythjhgegilibadaadoor", sum := "9a4c483398f587dd01f159ea177010aa0ad39ca4a55899debca66e076888570a", func := "armillary/armillarylaw05.PolyEvalIsotonic", spec := "polyEvalIsotonic", unfollowed := true, recurses := true, named := ["armillary/interval.products"], plainKeys := false, apart := false, laid := [("armillary/interval.products", laid_armillary_interval_products)] }
def PolyEvalIsotonicSaid : Prop := polyEvalIsotonicRow.holds Tryd.pinned (OpenSpec.ofChange polyEvalIsotonicSpec)

/-- ITS FALSE NEIGHBOUR: 'it returns false'. Refute it at one input. -/
def polyEvalIsotonicWrong : ChangeSpec := { name := "polyEvalIsotonic", fn := fun _ => fun
  | [d1, d2, d3] => { results := [.lit (.bool false)], args := [d1, d2, d3] }
  | _ => none }
def PolyEvalIsotonicWrongFalsely : Prop := polyEvalIsotonicRow.holds Tryd.pinned (OpenSpec.ofChange polyEvalIsotonicWrong)

/-- 'armillarylaw05.PolyTruncatedProduct': WHATEVER THE INPUT: true; the input reads as it did. -/
def polyTruncatedProductSpec : ChangeSpec := { name := "polyTruncatedProduct", fn := fun _ => fun
  | [d1, d2, d3] => { results := [.lit (.bool true)], args := [d1, d2, d3] }
  | _ => none }
def polyTruncatedProductRow : OpenClaim := { program := "ythjhgegilibadaadoor", sum := "9a4c483398f587dd01f159ea177010aa0ad39ca4a55899debca66e076888570a", func := "armillary/armillarylaw05.PolyTruncatedProduct", spec := "polyTruncatedProduct", unfollowed := true, recurses := true, named := ["armillary/interval.products"], plainKeys := false, apart := false, laid := [("armillary/interval.products", laid_armillary_interval_products)] }
def PolyTruncatedProductSaid : Prop := polyTruncatedProductRow.holds Tryd.pinned (OpenSpec.ofChange polyTruncatedProductSpec)

/-- ITS FALSE NEIGHBOUR: 'it returns false'. Refute it at one input. -/
def polyTruncatedProductWrong : ChangeSpec := { name := "polyTruncatedProduct", fn := fun _ => fun
  | [d1, d2, d3] => { results := [.lit (.bool false)], args := [d1, d2, d3] }
  | _ => none }
def PolyTruncatedProductWrongFalsely : Prop := polyTruncatedProductRow.holds Tryd.pinned (OpenSpec.ofChange polyTruncatedProductWrong)

/- THE SECOND FORM. 'bulk': how many values and letters a reading holds, each counted each time it is reached (what is shared counts as often as it is met; a slice's spare places count too). A statement '..UptoSaid' is the law's where the arguments, and the package variables that the reading takes, are together of bulk at most 1048576: NARROWER than '..Said'. Prove '..Said' where nothing that the law and all that it calls make is longer than what came in: it says more and counts as full. Else prove '..UptoSaid'. A law counts once. -/
mutual
def uptoBulk {H : Type} : DataW H → Nat
  | .lit (.string bytes) => bytes.length + 1
  | .lit _ => 1
  | .nil => 1
  | .ptr d => uptoBulk d + 1
  | .slice elems spare => uptoBulkAll elems + uptoBulkAll spare + 1
  | .agg parts => uptoBulkAll parts + 1
  | .iface _ d => uptoBulk d + 1
  | .map entries => uptoBulkEntries entries + 1
  | .held _ => 1
def uptoBulkAll {H : Type} : List (DataW H) → Nat
  | [] => 0
  | d :: r => uptoBulk d + uptoBulkAll r
def uptoBulkEntries {H : Type} : List (Lit × DataW H) → Nat
  | [] => 0
  | x :: r => uptoBulkEntry x + uptoBulkEntries r
def uptoBulkEntry {H : Type} : Lit × DataW H → Nat
  | (.string bytes, d) => bytes.length + uptoBulk d + 1
  | (_, d) => uptoBulk d + 1
 end
def uptoSmall : (H : Type) → List (DataW H) → Bool := fun _ ds => decide (uptoBulkAll ds ≤ 1048576)
def OpenSpec.upto (s : _root_.Go.ChangeSpec) : _root_.Go.OpenSpec := { _root_.Go.OpenSpec.ofChange s with cond := some uptoSmall }

/-- 'armillarylaw05.PolyMatchesReference', WHERE WHAT IT READS IS OF BULK AT MOST 1048576: true; the input reads as it did. -/
def polyMatchesReferenceUptoRow : OpenClaim := { program := "ythjhgegilibadaadoor", sum := "9a4c483398f587dd01f159ea177010aa0ad39ca4a55899debca66e076888570a", func := "armillary/armillarylaw05.PolyMatchesReference", spec := "polyMatchesReference", unfollowed := true, recurses := true, named := ["armillary/interval.products"], plainKeys := false, apart := false, laid := [("armillary/interval.products", laid_armillary_interval_products)], narrowed := true }
def PolyMatchesReferenceUptoSaid : Prop := polyMatchesReferenceUptoRow.holds Tryd.pinned (OpenSpec.upto polyMatchesReferenceSpec)

/-- 'armillarylaw05.PolySumExact', WHERE WHAT IT READS IS OF BULK AT MOST 1048576: true; the input reads as it did. -/
def polySumExactUptoRow : OpenClaim := { program := "ythjhgegilibadaadoor", sum := "9a4c483398f587dd01f159ea177010aa0ad39ca4a55899debca66e076888570a", func := "armillary/armillarylaw05.PolySumExact", spec := "polySumExact", unfollowed := true, recurses := true, named := ["armillary/interval.products"], plainKeys := false, apart := false, laid := [("armillary/interval.products", laid_armillary_interval_products)], narrowed := true }
def PolySumExactUptoSaid : Prop := polySumExactUptoRow.holds Tryd.pinned (OpenSpec.upto polySumExactSpec)

/-- 'armillarylaw05.PolyRangeEnclosure', WHERE WHAT IT READS IS OF BULK AT MOST 1048576: true; the input reads as it did. -/
def polyRangeEnclosureUptoRow : OpenClaim := { program := "ythjhgegilibadaadoor", sum := "9a4c483398f587dd01f159ea177010aa0ad39ca4a55899debca66e076888570a", func := "armillary/armillarylaw05.PolyRangeEnclosure", spec := "polyRangeEnclosure", unfollowed := true, recurses := true, named := ["armillary/interval.products"], plainKeys := false, apart := false, laid := [("armillary/interval.products", laid_armillary_interval_products)], narrowed := true }
def PolyRangeEnclosureUptoSaid : Prop := polyRangeEnclosureUptoRow.holds Tryd.pinned (OpenSpec.upto polyRangeEnclosureSpec)

/-- 'armillarylaw05.PolyEvalIsotonic', WHERE WHAT IT READS IS OF BULK AT MOST 1048576: true; the input reads as it did. -/
def polyEvalIsotonicUptoRow : OpenClaim := { program := "ythjhgegilibadaadoor", sum := "9a4c483398f587dd01f159ea177010aa0ad39ca4a55899debca66e076888570a", func := "armillary/armillarylaw05.PolyEvalIsotonic", spec := "polyEvalIsotonic", unfollowed := true, recurses := true, named := ["armillary/interval.products"], plainKeys := false, apart := false, laid := [("armillary/interval.products", laid_armillary_interval_products)], narrowed := true }
def PolyEvalIsotonicUptoSaid : Prop := polyEvalIsotonicUptoRow.holds Tryd.pinned (OpenSpec.upto polyEvalIsotonicSpec)

/-- 'armillarylaw05.PolyTruncatedProduct', WHERE WHAT IT READS IS OF BULK AT MOST 1048576: true; the input reads as it did. -/
def polyTruncatedProductUptoRow : OpenClaim := { program := "ythjhgegilibadaadoor", sum := "9a4c483398f587dd01f159ea177010aa0ad39ca4a55899debca66e076888570a", func := "armillary/armillarylaw05.PolyTruncatedProduct", spec := "polyTruncatedProduct", unfollowed := true, recurses := true, named := ["armillary/interval.products"], plainKeys := false, apart := false, laid := [("armillary/interval.products", laid_armillary_interval_products)], narrowed := true }
def PolyTruncatedProductUptoSaid : Prop := polyTruncatedProductUptoRow.holds Tryd.pinned (OpenSpec.upto polyTruncatedProductSpec)

end Rows
end Go.Proofs.YthjhgegilibadaaDoor
