/-
  DERIVED. GIVEN WITH THE SEED: THE CARDS: each row of YtpmakhfpdidleaaDoorRows.lean that lists a variable, with what it lists TIED to the program's text (the seventh form; the later family's looks); each row that meets fmt, with fmt's text TOLD by the authors' own Lean function (tested against real Go, not proved from fmt's source: count such statements apart). THE CARD IS WHAT COUNTS. Prove the row's statement (the work); the ties are given (YtpmakhfpdidleaaDoorTie.lean); close each card by the builder's one call (the guide's Derived/Test/ToyasCard.lean, 'card_holds'). Laid BY PROGRAM, IN A SANDBOX (cutbox-door.mjs). By AI agents, Wed Nov 11 2026. No macro, syntax, notation, axiom, sorry.
-/
import Derived.Test.YtpmakhfpdidleaaDoorRows
import GoSem.ClaimSeven
namespace Go.Proofs.YtpmakhfpdidleaaDoor
namespace Rows

/-- THE TIED CARD OF 'wageofficelaw29.HandoverAltered'. -/
def handoverAlteredCard : Claim7 := { stood := { row := handoverAlteredRow, standIns := [], harness := (true, "70a9f4d2dfdf0072c75ddbc457e241e582632f2c79e83054d20ac24c0c60bcf7"), looks := false }, kinds := [], alts := [], laidByText := true, laidKinds := [.data, .data, .data, .data, .data], laidTests := true, laidLooks := .later }
def HandoverAlteredCardSaid : Prop := Claim7.holds Tryd.pinned (.plain (OpenSpec.ofChange handoverAlteredSpec)) handoverAlteredCard

/-- THE SECOND FORM's CARD OF 'wageofficelaw29.HandoverAltered'. -/
def handoverAlteredUptoCard : Claim7 := { stood := { row := handoverAlteredUptoRow, standIns := [], harness := (true, "70a9f4d2dfdf0072c75ddbc457e241e582632f2c79e83054d20ac24c0c60bcf7"), looks := false }, kinds := [], alts := [], laidByText := true, laidKinds := [.data, .data, .data, .data, .data], laidTests := true, laidLooks := .later }
def HandoverAlteredUptoCardSaid : Prop := Claim7.holds Tryd.pinned (.plain (OpenSpec.upto handoverAlteredSpec)) handoverAlteredUptoCard
end Rows
end Go.Proofs.YtpmakhfpdidleaaDoor
