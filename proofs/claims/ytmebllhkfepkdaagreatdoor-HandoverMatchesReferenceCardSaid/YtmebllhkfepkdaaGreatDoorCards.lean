/-
  DERIVED. GIVEN WITH THE SEED: THE CARDS: each row of YtmebllhkfepkdaaGreatDoorRows.lean that lists a variable, with what it lists TIED to the program's text (the seventh form; the later family's looks); each row that meets fmt, with fmt's text TOLD by the authors' own Lean function (tested against real Go, not proved from fmt's source: count such statements apart). THE CARD IS WHAT COUNTS. Prove the row's statement (the work); the ties are given (YtmebllhkfepkdaaGreatDoorTie.lean); close each card by the builder's one call (the guide's Derived/Test/ToyasCard.lean, 'card_holds'). Laid BY PROGRAM, IN A SANDBOX (cutbox-door.mjs). By AI agents, Wed Nov 11 2026. No macro, syntax, notation, axiom, sorry.
-/
import Derived.Test.YtmebllhkfepkdaaGreatDoorRows
import GoSem.ClaimSeven
namespace Go.Proofs.YtmebllhkfepkdaaGreatDoor
namespace Rows

/-- THE TIED CARD OF 'wageofficelaw29.HandoverMatchesReference'. -/
def handoverMatchesReferenceCard : Claim7 := { stood := { row := handoverMatchesReferenceRow, standIns := [], harness := (true, "6ea969931c48726434d93a01c830f158c0f8adc82632a138d0b1939888172a7b"), looks := false }, kinds := [], alts := [], laidByText := true, laidKinds := [.data, .data, .data, .data, .data], laidTests := true, laidLooks := .later }
def HandoverMatchesReferenceCardSaid : Prop := Claim7.holds Tryz.pinned (.plain (OpenSpec.ofChange handoverMatchesReferenceSpec)) handoverMatchesReferenceCard

/-- THE SECOND FORM's CARD OF 'wageofficelaw29.HandoverMatchesReference'. -/
def handoverMatchesReferenceUptoCard : Claim7 := { stood := { row := handoverMatchesReferenceUptoRow, standIns := [], harness := (true, "6ea969931c48726434d93a01c830f158c0f8adc82632a138d0b1939888172a7b"), looks := false }, kinds := [], alts := [], laidByText := true, laidKinds := [.data, .data, .data, .data, .data], laidTests := true, laidLooks := .later }
def HandoverMatchesReferenceUptoCardSaid : Prop := Claim7.holds Tryz.pinned (.plain (OpenSpec.upto handoverMatchesReferenceSpec)) handoverMatchesReferenceUptoCard
end Rows
end Go.Proofs.YtmebllhkfepkdaaGreatDoor
