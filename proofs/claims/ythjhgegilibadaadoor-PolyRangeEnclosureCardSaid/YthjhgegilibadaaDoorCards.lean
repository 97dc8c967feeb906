/-
  DERIVED. GIVEN WITH THE SEED: THE CARDS: each row of YthjhgegilibadaaDoorRows.lean that lists a variable, with what it lists TIED to the program's text (the seventh form; the later family's looks); each row that meets fmt, with fmt's text TOLD by the authors' own Lean function (tested against real Go, not proved from fmt's source: count such statements apart). THE CARD IS WHAT COUNTS. Prove the row's statement (the work); the ties are given (YthjhgegilibadaaDoorTie.lean); close each card by the builder's one call (the guide's Derived/Test/ToyasCard.lean, 'card_holds'). Laid BY PROGRAM, IN A SANDBOX (cutbox-door.mjs). By AI agents, Wed Nov 11 2026. No macro, syntax, notation, axiom, sorry.
-/
import Derived.Test.YthjhgegilibadaaDoorRows
import GoSem.ClaimSeven
namespace Go.Proofs.YthjhgegilibadaaDoor
namespace Rows

/-- THE TIED CARD OF 'armillarylaw05.PolyMatchesReference'. -/
def polyMatchesReferenceCard : Claim7 := { stood := { row := polyMatchesReferenceRow, standIns := [], harness := (true, "e8f965ce3481bb3ceb81375e018f325c9d60d7612fe58641fc0a9abfa165f55f"), looks := false }, kinds := [], alts := [], laidByText := true, laidKinds := [.funcs], laidTests := true, laidLooks := .later }
def PolyMatchesReferenceCardSaid : Prop := Claim7.holds Tryd.pinned (.plain (OpenSpec.ofChange polyMatchesReferenceSpec)) polyMatchesReferenceCard

/-- THE TIED CARD OF 'armillarylaw05.PolySumExact'. -/
def polySumExactCard : Claim7 := { stood := { row := polySumExactRow, standIns := [], harness := (true, "e8f965ce3481bb3ceb81375e018f325c9d60d7612fe58641fc0a9abfa165f55f"), looks := false }, kinds := [], alts := [], laidByText := true, laidKinds := [.funcs], laidTests := true, laidLooks := .later }
def PolySumExactCardSaid : Prop := Claim7.holds Tryd.pinned (.plain (OpenSpec.ofChange polySumExactSpec)) polySumExactCard

/-- THE TIED CARD OF 'armillarylaw05.PolyRangeEnclosure'. -/
def polyRangeEnclosureCard : Claim7 := { stood := { row := polyRangeEnclosureRow, standIns := [], harness := (true, "e8f965ce3481bb3ceb81375e018f325c9d60d7612fe58641fc0a9abfa165f55f"), looks := false }, kinds := [], alts := [], laidByText := true, laidKinds := [.funcs], laidTests := true, laidLooks := .later }
def PolyRangeEnclosureCardSaid : Prop := Claim7.holds Tryd.pinned (.plain (OpenSpec.ofChange polyRangeEnclosureSpec)) polyRangeEnclosureCard

/-- THE TIED CARD OF 'armillarylaw05.PolyEvalIsotonic'. -/
def polyEvalIsotonicCard : Claim7 := { stood := { row := polyEvalIsotonicRow, standIns := [], harness := (true, "e8f965ce3481bb3ceb81375e018f325c9d60d7612fe58641fc0a9abfa165f55f"), looks := false }, kinds := [], alts := [], laidByText := true, laidKinds := [.funcs], laidTests := true, laidLooks := .later }
def PolyEvalIsotonicCardSaid : Prop := Claim7.holds Tryd.pinned (.plain (OpenSpec.ofChange polyEvalIsotonicSpec)) polyEvalIsotonicCard

/-- THE TIED CARD OF 'armillarylaw05.PolyTruncatedProduct'. -/
def polyTruncatedProductCard : Claim7 := { stood := { row := polyTruncatedProductRow, standIns := [], harness := (true, "e8f965ce3481bb3ceb81375e018f325c9d60d7612fe58641fc0a9abfa165f55f"), looks := false }, kinds := [], alts := [], laidByText := true, laidKinds := [.funcs], laidTests := true, laidLooks := .later }
def PolyTruncatedProductCardSaid : Prop := Claim7.holds Tryd.pinned (.plain (OpenSpec.ofChange polyTruncatedProductSpec)) polyTruncatedProductCard

/-- THE SECOND FORM's CARD OF 'armillarylaw05.PolyMatchesReference'. -/
def polyMatchesReferenceUptoCard : Claim7 := { stood := { row := polyMatchesReferenceUptoRow, standIns := [], harness := (true, "e8f965ce3481bb3ceb81375e018f325c9d60d7612fe58641fc0a9abfa165f55f"), looks := false }, kinds := [], alts := [], laidByText := true, laidKinds := [.funcs], laidTests := true, laidLooks := .later }
def PolyMatchesReferenceUptoCardSaid : Prop := Claim7.holds Tryd.pinned (.plain (OpenSpec.upto polyMatchesReferenceSpec)) polyMatchesReferenceUptoCard

/-- THE SECOND FORM's CARD OF 'armillarylaw05.PolySumExact'. -/
def polySumExactUptoCard : Claim7 := { stood := { row := polySumExactUptoRow, standIns := [], harness := (true, "e8f965ce3481bb3ceb81375e018f325c9d60d7612fe58641fc0a9abfa165f55f"), looks := false }, kinds := [], alts := [], laidByText := true, laidKinds := [.funcs], laidTests := true, laidLooks := .later }
def PolySumExactUptoCardSaid : Prop := Claim7.holds Tryd.pinned (.plain (OpenSpec.upto polySumExactSpec)) polySumExactUptoCard

/-- THE SECOND FORM's CARD OF 'armillarylaw05.PolyRangeEnclosure'. -/
def polyRangeEnclosureUptoCard : Claim7 := { stood := { row := polyRangeEnclosureUptoRow, standIns := [], harness := (true, "e8f965ce3481bb3ceb81375e018f325c9d60d7612fe58641fc0a9abfa165f55f"), looks := false }, kinds := [], alts := [], laidByText := true, laidKinds := [.funcs], laidTests := true, laidLooks := .later }
def PolyRangeEnclosureUptoCardSaid : Prop := Claim7.holds Tryd.pinned (.plain (OpenSpec.upto polyRangeEnclosureSpec)) polyRangeEnclosureUptoCard

/-- THE SECOND FORM's CARD OF 'armillarylaw05.PolyEvalIsotonic'. -/
def polyEvalIsotonicUptoCard : Claim7 := { stood := { row := polyEvalIsotonicUptoRow, standIns := [], harness := (true, "e8f965ce3481bb3ceb81375e018f325c9d60d7612fe58641fc0a9abfa165f55f"), looks := false }, kinds := [], alts := [], laidByText := true, laidKinds := [.funcs], laidTests := true, laidLooks := .later }
def PolyEvalIsotonicUptoCardSaid : Prop := Claim7.holds Tryd.pinned (.plain (OpenSpec.upto polyEvalIsotonicSpec)) polyEvalIsotonicUptoCard

/-- THE SECOND FORM's CARD OF 'armillarylaw05.PolyTruncatedProduct'. -/
def polyTruncatedProductUptoCard : Claim7 := { stood := { row := polyTruncatedProductUptoRow, standIns := [], harness := (true, "e8f965ce3481bb3ceb81375e018f325c9d60d7612fe58641fc0a9abfa165f55f"), looks := false }, kinds := [], alts := [], laidByText := true, laidKinds := [.funcs], laidTests := true, laidLooks := .later }
def PolyTruncatedProductUptoCardSaid : Prop := Claim7.holds Tryd.pinned (.plain (OpenSpec.upto polyTruncatedProductSpec)) polyTruncatedProductUptoCard
end Rows
end Go.Proofs.YthjhgegilibadaaDoor
