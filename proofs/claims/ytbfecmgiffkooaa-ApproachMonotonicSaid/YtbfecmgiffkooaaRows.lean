/-
  No cell of these rows narrows 'for every input' (looked for: loops, veiled, ifaces, maps, wideKeys, modest, calm, conditions, laid).
  DERIVED. THE GIVEN ROWS OF THIS SEAT. 8 by the template 'for every input the law returns true; each argument reads behind the call as it read before'; 0 by the template 'total and deterministic' (their statements: YtbfecmgiffkooaaTotals.lean).
  GIVEN WITH THE SEED: the statements are not yours to turn. If you find one false, say at which input.
  Laid BY PROGRAM, IN A SANDBOX (cutbox-rows.mjs): the forced cells as the released guide's own fill.sh prints them over the translation 6e61c3a3602a66a0… (all of the seat's roots in one cut). By AI agents, Wed Nov 11 2026. No macro, syntax, notation, axiom, sorry.
-/
import Derived.Test.YtbfecmgiffkooaaChecked
import GoSem.Claim
import GoSem.ClaimJoined
import GoSem.ClaimMapViews
import Derived.JoinedTies
import Derived.KernelRfl
namespace Go.Proofs.Ytbfecmgiffkooaa
/- THE CELL 'sum', in the pinned program and in every row, IS THE sha256 OF THE DUMP (.gsa) THAT YtbfecmgiffkooaaProg.lean LOADS. Nothing in Lean hashes anything: it is a label: what it is worth is what the hold of that sum in a sandbox is worth. -/
noncomputable def Try.pinned : Pinned := { name := "ytbfecmgiffkooaa", sum := "6e61c3a3602a66a05c1267188ce8c90019b5c70477d0dc57d9c6627f8994ebc0", checked := Try.checked }
namespace Rows
def none {H : Type} : Left H := { results := [], args := [] }

/-- 'armillarylaw20.ApproachMatchesReference': WHATEVER THE INPUT: true; the input reads as it did. -/
def approachMatchesReferenceSpec : ChangeSpec := { name := "approachMatchesReference", fn := fun _ => fun
  | [d1, d2] => { results := [.lit (.bool true)], args := [d1, d2] }
  | _ => none }
def approachMatchesReferenceRow : OpenClaim := { program := "ytbfecmgiffkooaa", sum := "6e61c3a3602a66a05c1267188ce8c90019b5c70477d0dc57d9c6627f8994ebc0", func := "armillary/armillarylaw20.ApproachMatchesReference", spec := "approachMatchesReference", unfollowed := true, recurses := true, apart := false }
def ApproachMatchesReferenceSaid : Prop := approachMatchesReferenceRow.holds Try.pinned (OpenSpec.ofChange approachMatchesReferenceSpec)

/-- ITS FALSE NEIGHBOUR: 'it returns false'. Refute it at one input. -/
def approachMatchesReferenceWrong : ChangeSpec := { name := "approachMatchesReference", fn := fun _ => fun
  | [d1, d2] => { results := [.lit (.bool false)], args := [d1, d2] }
  | _ => none }
def ApproachMatchesReferenceWrongFalsely : Prop := approachMatchesReferenceRow.holds Try.pinned (OpenSpec.ofChange approachMatchesReferenceWrong)

/-- 'armillarylaw20.ApproachSoundness': WHATEVER THE INPUT: true; the input reads as it did. -/
def approachSoundnessSpec : ChangeSpec := { name := "approachSoundness", fn := fun _ => fun
  | [d1, d2, d3] => { results := [.lit (.bool true)], args := [d1, d2, d3] }
  | _ => none }
def approachSoundnessRow : OpenClaim := { program := "ytbfecmgiffkooaa", sum := "6e61c3a3602a66a05c1267188ce8c90019b5c70477d0dc57d9c6627f8994ebc0", func := "armillary/armillarylaw20.ApproachSoundness", spec := "approachSoundness", unfollowed := true, recurses := true, apart := false }
def ApproachSoundnessSaid : Prop := approachSoundnessRow.holds Try.pinned (OpenSpec.ofChange approachSoundnessSpec)

/-- ITS FALSE NEIGHBOUR: 'it returns false'. Refute it at one input. -/
def approachSoundnessWrong : ChangeSpec := { name := "approachSoundness", fn := fun _ => fun
  | [d1, d2, d3] => { results := [.lit (.bool false)], args := [d1, d2, d3] }
  | _ => none }
def ApproachSoundnessWrongFalsely : Prop := approachSoundnessRow.holds Try.pinned (OpenSpec.ofChange approachSoundnessWrong)

/-- 'armillarylaw20.ApproachConflict': WHATEVER THE INPUT: true; the input reads as it did. -/
def approachConflictSpec : ChangeSpec := { name := "approachConflict", fn := fun _ => fun
  | [d1, d2] => { results := [.lit (.bool true)], args := [d1, d2] }
  | _ => none }
def approachConflictRow : OpenClaim := { program := "ytbfecmgiffkooaa", sum := "6e61c3a3602a66a05c1267188ce8c90019b5c70477d0dc57d9c6627f8994ebc0", func := "armillary/armillarylaw20.ApproachConflict", spec := "approachConflict", unfollowed := true, recurses := true, apart := false }
def ApproachConflictSaid : Prop := approachConflictRow.holds Try.pinned (OpenSpec.ofChange approachConflictSpec)

/-- ITS FALSE NEIGHBOUR: 'it returns false'. Refute it at one input. -/
def approachConflictWrong : ChangeSpec := { name := "approachConflict", fn := fun _ => fun
  | [d1, d2] => { results := [.lit (.bool false)], args := [d1, d2] }
  | _ => none }
def ApproachConflictWrongFalsely : Prop := approachConflictRow.holds Try.pinned (OpenSpec.ofChange approachConflictWrong)

/-- 'armillarylaw20.ApproachSymmetry': WHATEVER THE INPUT: true; the input reads as it did. -/
def approachSymmetrySpec : ChangeSpec := { name := "approachSymmetry", fn := fun _ => fun
  | [d] => { results := [.lit (.bool true)], args := [d] }
  | _ => none }
def approachSymmetryRow : OpenClaim := { program := "ytbfecmgiffkooaa", sum := "6e61c3a3602a66a05c1267188ce8c90019b5c70477d0dc57d9c6627f8994ebc0", func := "armillary/armillarylaw20.ApproachSymmetry", spec := "approachSymmetry", unfollowed := true, recurses := true, apart := false }
def ApproachSymmetrySaid : Prop := approachSymmetryRow.holds Try.pinned (OpenSpec.ofChange approachSymmetrySpec)

/-- ITS FALSE NEIGHBOUR: 'it returns false'. Refute it at one input. -/
def approachSymmetryWrong : ChangeSpec := { name := "approachSymmetry", fn := fun _ => fun
  | [d] => { results := [.lit (.bool false)], args := [d] }
  | _ => none }
def ApproachSymmetryWrongFalsely : Prop := approachSymmetryRow.holds Try.pinned (OpenSpec.ofChange approachSymmetryWrong)

/-- 'armillarylaw20.ApproachShift': WHATEVER THE INPUT: true; the input reads as it did. -/
def approachShiftSpec : ChangeSpec := { name := "approachShift", fn := fun _ => fun
  | [d1, d2, d3] => { results := [.lit (.bool true)], args := [d1, d2, d3] }
  | _ => none }
def approachShiftRow : OpenClaim := { program := "ytbfecmgiffkooaa", sum := "6e61c3a3602a66a05c1267188ce8c90019b5c70477d0dc57d9c6627f8994ebc0", func := "armillary/armillarylaw20.ApproachShift", spec := "approachShift", unfollowed := true, recurses := true, apart := false }
def ApproachShiftSaid : Prop := approachShiftRow.holds Try.pinned (OpenSpec.ofChange approachShiftSpec)

/-- ITS FALSE NEIGHBOUR: 'it returns false'. Refute it at one input. -/
def approachShiftWrong : ChangeSpec := { name := "approachShift", fn := fun _ => fun
  | [d1, d2, d3] => { results := [.lit (.bool false)], args := [d1, d2, d3] }
  | _ => none }
def ApproachShiftWrongFalsely : Prop := approachShiftRow.holds Try.pinned (OpenSpec.ofChange approachShiftWrong)

/-- 'armillarylaw20.ApproachMonotonic': WHATEVER THE INPUT: true; the input reads as it did. -/
def approachMonotonicSpec : ChangeSpec := { name := "approachMonotonic", fn := fun _ => fun
  | [d1, d2, d3] => { results := [.lit (.bool true)], args := [d1, d2, d3] }
  | _ => none }
def approachMonotonicRow : OpenClaim := { program := "ytbfecmgiffkooaa", sum := "6e61c3a3602a66a05c1267188ce8c90019b5c70477d0dc57d9c6627f8994ebc0", func := "armillary/armillarylaw20.ApproachMonotonic", spec := "approachMonotonic", unfollowed := true, recurses := true, apart := false }
def ApproachMonotonicSaid : Prop := approachMonotonicRow.holds Try.pinned (OpenSpec.ofChange approachMonotonicSpec)

/-- ITS FALSE NEIGHBOUR: 'it returns false'. Refute it at one input. -/
def approachMonotonicWrong : ChangeSpec := { name := "approachMonotonic", fn := fun _ => fun
  | [d1, d2, d3] => { results := [.lit (.bool false)], args := [d1, d2, d3] }
  | _ => none }
def ApproachMonotonicWrongFalsely : Prop := approachMonotonicRow.holds Try.pinned (OpenSpec.ofChange approachMonotonicWrong)

/-- 'armillarylaw20.ApproachTimes': WHATEVER THE INPUT: true; the input reads as it did. -/
def approachTimesSpec : ChangeSpec := { name := "approachTimes", fn := fun _ => fun
  | [d] => { results := [.lit (.bool true)], args := [d] }
  | _ => none }
def approachTimesRow : OpenClaim := { program := "ytbfecmgiffkooaa", sum := "6e61c3a3602a66a05c1267188ce8c90019b5c70477d0dc57d9c6627f8994ebc0", func := "armillary/armillarylaw20.ApproachTimes", spec := "approachTimes", unfollowed := true, recurses := true, apart := false }
def ApproachTimesSaid : Prop := approachTimesRow.holds Try.pinned (OpenSpec.ofChange approachTimesSpec)

/-- ITS FALSE NEIGHBOUR: 'it returns false'. Refute it at one input. -/
def approachTimesWrong : ChangeSpec := { name := "approachTimes", fn := fun _ => fun
  | [d] => { results := [.lit (.bool false)], args := [d] }
  | _ => none }
def ApproachTimesWrongFalsely : Prop := approachTimesRow.holds Try.pinned (OpenSpec.ofChange approachTimesWrong)

/-- 'armillarylaw20.ApproachSplit': WHATEVER THE INPUT: true; the input reads as it did. -/
def approachSplitSpec : ChangeSpec := { name := "approachSplit", fn := fun _ => fun
  | [d1, d2, d3] => { results := [.lit (.bool true)], args := [d1, d2, d3] }
  | _ => none }
def approachSplitRow : OpenClaim := { program := "ytbfecmgiffkooaa", sum := "6e61c3a3602a66a05c1267188ce8c90019b5c70477d0dc57d9c6627f8994ebc0", func := "armillary/armillarylaw20.ApproachSplit", spec := "approachSplit", unfollowed := true, recurses := true, apart := false }
def ApproachSplitSaid : Prop := approachSplitRow.holds Try.pinned (OpenSpec.ofChange approachSplitSpec)

/-- ITS FALSE NEIGHBOUR: 'it returns false'. Refute it at one input. -/
def approachSplitWrong : ChangeSpec := { name := "approachSplit", fn := fun _ => fun
  | [d1, d2, d3] => { results := [.lit (.bool false)], args := [d1, d2, d3] }
  | _ => none }
def ApproachSplitWrongFalsely : Prop := approachSplitRow.holds Try.pinned (OpenSpec.ofChange approachSplitWrong)

/- THE SECOND FORM. 'bulk': how many values and letters a reading holds, each counted each time it is reached (what is shared counts as often as it is met; a slice's spare places count too). A statement '..UptoSaid' is the law's where the arguments, and the package variables that the reading takes, are together of bulk at most 1048576: NARROWER than '..Said'. Prove '..Said' where nothing that the law and all that it calls make is longer than what came in: it says more and counts as full. Else prove '..UptoSaid'. A law counts once. -/
mutual
def uptoBulk {H : Type} : DataW H → Nat
  | .lit (.string bytes) => bytes.length + 1
  | .lit _ => 1
  | .nil => 1
  | .ptr d => uptoBulk d + 1
  | .slice elems spare => uptoBulkAll elems + uptoBulkAll spare + 1
  | .agg parts => uptoBulkAll parts + 1
  | .iface _ d => uptoBulk d + 1
  | .map entries => uptoBulkEntries entries + 1
  | .held _ => 1
def uptoBulkAll {H : Type} : List (DataW H) → Nat
  | [] => 0
  | d :: r => uptoBulk d + uptoBulkAll r
def uptoBulkEntries {H : Type} : List (Lit × DataW H) → Nat
  | [] => 0
  | x :: r => uptoBulkEntry x + uptoBulkEntries r
def uptoBulkEntry {H : Type} : Lit × DataW H → Nat
  | (.string bytes, d) => bytes.length + uptoBulk d + 1
  | (_, d) => uptoBulk d + 1
 end
def uptoSmall : (H : Type) → List (DataW H) → Bool := fun _ ds => decide (uptoBulkAll ds ≤ 1048576)
def OpenSpec.upto (s : _root_.Go.ChangeSpec) : _root_.Go.OpenSpec := { _root_.Go.OpenSpec.ofChange s with cond := some uptoSmall }

/-- 'armillarylaw20.ApproachMatchesReference', WHERE WHAT IT READS IS OF BULK AT MOST 1048576: true; the input reads as it did. -/
def approachMatchesReferenceUptoRow : OpenClaim := { program := "ytbfecmgiffkooaa", sum := "6e61c3a3602a66a05c1267188ce8c90019b5c70477d0dc57d9c6627f8994ebc0", func := "armillary/armillarylaw20.ApproachMatchesReference", spec := "approachMatchesReference", unfollowed := true, recurses := true, apart := false, narrowed := true }
def ApproachMatchesReferenceUptoSaid : Prop := approachMatchesReferenceUptoRow.holds Try.pinned (OpenSpec.upto approachMatchesReferenceSpec)

/-- 'armillarylaw20.ApproachSoundness', WHERE WHAT IT READS IS OF BULK AT MOST 1048576: true; the input reads as it did. -/
def approachSoundnessUptoRow : OpenClaim := { program := "ytbfecmgiffkooaa", sum := "6e61c3a3602a66a05c1267188ce8c90019b5c70477d0dc57d9c6627f8994ebc0", func := "armillary/armillarylaw20.ApproachSoundness", spec := "approachSoundness", unfollowed := true, recurses := true, apart := false, narrowed := true }
def ApproachSoundnessUptoSaid : Prop := approachSoundnessUptoRow.holds Try.pinned (OpenSpec.upto approachSoundnessSpec)

/-- 'armillarylaw20.ApproachConflict', WHERE WHAT IT READS IS OF BULK AT MOST 1048576: true; the input reads as it did. -/
def approachConflictUptoRow : OpenClaim := { program := "ytbfecmgiffkooaa", sum := "6e61c3a3602a66a05c1267188ce8c90019b5c70477d0dc57d9c6627f8994ebc0", func := "armillary/armillarylaw20.ApproachConflict", spec := "approachConflict", unfollowed := true, recurses := true, apart := false, narrowed := true }
def ApproachConflictUptoSaid : Prop := approachConflictUptoRow.holds Try.pinned (OpenSpec.upto approachConflictSpec)

/-- 'armillarylaw20.ApproachSymmetry', WHERE WHAT IT READS IS OF BULK AT MOST 1048576: true; the input reads as it did. -/
def approachSymmetryUptoRow : OpenClaim := { program := "ytbfecmgiffkooaa", sum := "6e61c3a3602a66a05c1267188ce8c90019b5c70477d0dc57d9c6627f8994ebc0", func := "armillary/armillarylaw20.ApproachSymmetry", spec := "approachSymmetry", unfollowed := true, recurses := true, apart := false, narrowed := true }
def ApproachSymmetryUptoSaid : Prop := approachSymmetryUptoRow.holds Try.pinned (OpenSpec.upto approachSymmetrySpec)

/-- 'armillarylaw20.ApproachShift', WHERE WHAT IT READS IS OF BULK AT MOST 1048576: true; the input reads as it did. -/
def approachShiftUptoRow : OpenClaim := { program := "ytbfecmgiffkooaa", sum := "6e61c3a3602a66a05c1267188ce8c90019b5c70477d0dc57d9c6627f8994ebc0", func := "armillary/armillarylaw20.ApproachShift", spec := "approachShift", unfollowed := true, recurses := true, apart := false, narrowed := true }
def ApproachShiftUptoSaid : Prop := approachShiftUptoRow.holds Try.pinned (OpenSpec.upto approachShiftSpec)

/-- 'armillarylaw20.ApproachMonotonic', WHERE WHAT IT READS IS OF BULK AT MOST 1048576: true; the input reads as it did. -/
def approachMonotonicUptoRow : OpenClaim := { program := "ytbfecmgiffkooaa", sum := "6e61c3a3602a66a05c1267188ce8c90019b5c70477d0dc57d9c6627f8994ebc0", func := "armillary/armillarylaw20.ApproachMonotonic", spec := "approachMonotonic", unfollowed := true, recurses := true, apart := false, narrowed := true }
def ApproachMonotonicUptoSaid : Prop := approachMonotonicUptoRow.holds Try.pinned (OpenSpec.upto approachMonotonicSpec)

/-- 'armillarylaw20.ApproachTimes', WHERE WHAT IT READS IS OF BULK AT MOST 1048576: true; the input reads as it did. -/
def approachTimesUptoRow : OpenClaim := { program := "ytbfecmgiffkooaa", sum := "6e61c3a3602a66a05c1267188ce8c90019b5c70477d0dc57d9c6627f8994ebc0", func := "armillary/armillarylaw20.ApproachTimes", spec := "approachTimes", unfollowed := true, recurses := true, apart := false, narrowed := true }
def ApproachTimesUptoSaid : Prop := approachTimesUptoRow.holds Try.pinned (OpenSpec.upto approachTimesSpec)

/-- 'armillarylaw20.ApproachSplit', WHERE WHAT IT READS IS OF BULK AT MOST 1048576: true; the input reads as it did. -/
def approachSplitUptoRow : OpenClaim := { program := "ytbfecmgiffkooaa", sum := "6e61c3a3602a66a05c1267188ce8c90019b5c70477d0dc57d9c6627f8994ebc0", func := "armillary/armillarylaw20.ApproachSplit", spec := "approachSplit", unfollowed := true, recurses := true, apart := false, narrowed := true }
def ApproachSplitUptoSaid : Prop := approachSplitUptoRow.holds Try.pinned (OpenSpec.upto approachSplitSpec)

end Rows
end Go.Proofs.Ytbfecmgiffkooaa
