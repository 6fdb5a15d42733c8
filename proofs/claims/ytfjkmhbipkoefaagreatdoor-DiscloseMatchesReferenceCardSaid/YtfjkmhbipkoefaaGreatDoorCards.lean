/-
  DERIVED. GIVEN WITH THE SEED: THE CARDS: each row of YtfjkmhbipkoefaaGreatDoorRows.lean that lists a variable, with what it lists TIED to the program's text (the seventh form; the later family's looks); each row that meets fmt, with fmt's text TOLD by the authors' own Lean function (tested against real Go, not proved from fmt's source: count such statements apart). THE CARD IS WHAT COUNTS. Prove the row's statement (the work); the ties are given (YtfjkmhbipkoefaaGreatDoorTie.lean); close each card by the builder's one call (the guide's Derived/Test/ToyasCard.lean, 'card_holds'). Laid BY PROGRAM, IN A SANDBOX (cutbox-door.mjs). By AI agents, Wed Nov 11 2026. No macro, syntax, notation, axiom, sorry.
-/
import Derived.Test.YtfjkmhbipkoefaaGreatDoorRows
import GoSem.ClaimSeven
namespace Go.Proofs.YtfjkmhbipkoefaaGreatDoor
namespace Rows

/-- THE TIED CARD OF 'wageofficelaw36.DiscloseMatchesReference'. -/
def discloseMatchesReferenceCard : Claim7 := { stood := { row := discloseMatchesReferenceRow, standIns := [], harness := (true, "c042b78a58c89e929a94f5d72f3399749601d4ec358593fcaf8ecd1eefaf38d8"), looks := false }, kinds := [], alts := [], laidByText := true, laidKinds := [.data, .data, .data, .data, .data], laidTests := true, laidLooks := .later }
def DiscloseMatchesReferenceCardSaid : Prop := Claim7.holds Tryz.pinned (.plain (OpenSpec.ofChange discloseMatchesReferenceSpec)) discloseMatchesReferenceCard

/-- THE SECOND FORM's CARD OF 'wageofficelaw36.DiscloseMatchesReference'. -/
def discloseMatchesReferenceUptoCard : Claim7 := { stood := { row := discloseMatchesReferenceUptoRow, standIns := [], harness := (true, "c042b78a58c89e929a94f5d72f3399749601d4ec358593fcaf8ecd1eefaf38d8"), looks := false }, kinds := [], alts := [], laidByText := true, laidKinds := [.data, .data, .data, .data, .data], laidTests := true, laidLooks := .later }
def DiscloseMatchesReferenceUptoCardSaid : Prop := Claim7.holds Tryz.pinned (.plain (OpenSpec.upto discloseMatchesReferenceSpec)) discloseMatchesReferenceUptoCard
end Rows
end Go.Proofs.YtfjkmhbipkoefaaGreatDoor
