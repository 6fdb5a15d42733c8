/-
  DERIVED. GIVEN WITH THE SEED: THE CARDS: each row of YtfjkmhbipkoefaaDoorRows.lean that lists a variable, with what it lists TIED to the program's text (the seventh form; the later family's looks); each row that meets fmt, with fmt's text TOLD by the authors' own Lean function (tested against real Go, not proved from fmt's source: count such statements apart). THE CARD IS WHAT COUNTS. Prove the row's statement (the work); the ties are given (YtfjkmhbipkoefaaDoorTie.lean); close each card by the builder's one call (the guide's Derived/Test/ToyasCard.lean, 'card_holds'). Laid BY PROGRAM, IN A SANDBOX (cutbox-door.mjs). By AI agents, Wed Nov 11 2026. No macro, syntax, notation, axiom, sorry.
-/
import Derived.Test.YtfjkmhbipkoefaaDoorRows
import GoSem.ClaimSeven
namespace Go.Proofs.YtfjkmhbipkoefaaDoor
namespace Rows

/-- THE TIED CARD OF 'wageofficelaw35.PayslipMatchesReference'. -/
def payslipMatchesReferenceCard : Claim7 := { stood := { row := payslipMatchesReferenceRow, standIns := [], harness := (true, "3cbbe8a323bad3ce00955cda4cb1e5e2b34275c0cef8700985c1e75e4be3b682"), looks := false }, kinds := [], alts := [], laidByText := true, laidKinds := [.data, .data, .data, .data, .data], laidTests := true, laidLooks := .later }
def PayslipMatchesReferenceCardSaid : Prop := Claim7.holds Tryd.pinned (.plain (OpenSpec.ofChange payslipMatchesReferenceSpec)) payslipMatchesReferenceCard

/-- THE SECOND FORM's CARD OF 'wageofficelaw35.PayslipMatchesReference'. -/
def payslipMatchesReferenceUptoCard : Claim7 := { stood := { row := payslipMatchesReferenceUptoRow, standIns := [], harness := (true, "3cbbe8a323bad3ce00955cda4cb1e5e2b34275c0cef8700985c1e75e4be3b682"), looks := false }, kinds := [], alts := [], laidByText := true, laidKinds := [.data, .data, .data, .data, .data], laidTests := true, laidLooks := .later }
def PayslipMatchesReferenceUptoCardSaid : Prop := Claim7.holds Tryd.pinned (.plain (OpenSpec.upto payslipMatchesReferenceSpec)) payslipMatchesReferenceUptoCard
end Rows
end Go.Proofs.YtfjkmhbipkoefaaDoor
