/-
  DERIVED. GIVEN WITH THE SEED: THE CARDS: each row of YtpalbaaghplhnaaDoorRows.lean that lists a variable, with what it lists TIED to the program's text (the seventh form; the later family's looks); each row that meets fmt, with fmt's text TOLD by the authors' own Lean function (tested against real Go, not proved from fmt's source: count such statements apart). THE CARD IS WHAT COUNTS. Prove the row's statement (the work); the ties are given (YtpalbaaghplhnaaDoorTie.lean); close each card by the builder's one call (the guide's Derived/Test/ToyasCard.lean, 'card_holds'). Laid BY PROGRAM, IN A SANDBOX (cutbox-door.mjs). By AI agents, Wed Nov 11 2026. No macro, syntax, notation, axiom, sorry.
-/
import Derived.Test.YtpalbaaghplhnaaDoorRows
import GoSem.ClaimSeven
namespace Go.Proofs.YtpalbaaghplhnaaDoor
namespace Rows

/-- THE TIED CARD OF 'armillarylaw06.TaylorVariables'. -/
def taylorVariablesCard : Claim7 := { stood := { row := taylorVariablesRow, standIns := [], harness := (true, "f3864bf8385261bece46eab22a9047d119b38048229fd32e21f587a3f71ded6d"), looks := false }, kinds := [], alts := [], laidByText := true, laidKinds := [.funcs], laidTests := true, laidLooks := .later }
def TaylorVariablesCardSaid : Prop := Claim7.holds Tryd.pinned (.plain (OpenSpec.ofChange taylorVariablesSpec)) taylorVariablesCard

/-- THE SECOND FORM's CARD OF 'armillarylaw06.TaylorVariables'. -/
def taylorVariablesUptoCard : Claim7 := { stood := { row := taylorVariablesUptoRow, standIns := [], harness := (true, "f3864bf8385261bece46eab22a9047d119b38048229fd32e21f587a3f71ded6d"), looks := false }, kinds := [], alts := [], laidByText := true, laidKinds := [.funcs], laidTests := true, laidLooks := .later }
def TaylorVariablesUptoCardSaid : Prop := Claim7.holds Tryd.pinned (.plain (OpenSpec.upto taylorVariablesSpec)) taylorVariablesUptoCard
end Rows
end Go.Proofs.YtpalbaaghplhnaaDoor
