/-
  DERIVED. GIVEN WITH THE SEED: THE CARDS: each row of YtmebllhkfepkdaaDoorRows.lean that lists a variable, with what it lists TIED to the program's text (the seventh form; the later family's looks); each row that meets fmt, with fmt's text TOLD by the authors' own Lean function (tested against real Go, not proved from fmt's source: count such statements apart). THE CARD IS WHAT COUNTS. Prove the row's statement (the work); the ties are given (YtmebllhkfepkdaaDoorTie.lean); close each card by the builder's one call (the guide's Derived/Test/ToyasCard.lean, 'card_holds'). Laid BY PROGRAM, IN A SANDBOX (cutbox-door.mjs). By AI agents, Wed Nov 11 2026. No macro, syntax, notation, axiom, sorry.
-/
import Derived.Test.YtmebllhkfepkdaaDoorRows
import GoSem.ClaimSeven
namespace Go.Proofs.YtmebllhkfepkdaaDoor
namespace Rows

/-- THE TIED CARD OF 'wageofficelaw29.HandoverTexts'. -/
def handoverTextsCard : Claim7 := { stood := { row := handoverTextsRow, standIns := [], harness := (true, "30528af1d6458e494bd7230602a1426b2a381d326927fc45b78dbec363438a39"), looks := false }, kinds := [], alts := [], laidByText := true, laidKinds := [.data, .data, .data, .data, .data], laidTests := true, laidLooks := .later }
def HandoverTextsCardSaid : Prop := Claim7.holds Tryd.pinned (.plain (OpenSpec.ofChange handoverTextsSpec)) handoverTextsCard

/-- THE TIED CARD OF 'wageofficelaw29.HandoverAccepts'. -/
def handoverAcceptsCard : Claim7 := { stood := { row := handoverAcceptsRow, standIns := [], harness := (true, "30528af1d6458e494bd7230602a1426b2a381d326927fc45b78dbec363438a39"), looks := false }, kinds := [], alts := [], laidByText := true, laidKinds := [.data, .data, .data, .data, .data], laidTests := true, laidLooks := .later }
def HandoverAcceptsCardSaid : Prop := Claim7.holds Tryd.pinned (.plain (OpenSpec.ofChange handoverAcceptsSpec)) handoverAcceptsCard

/-- THE TIED CARD OF 'wageofficelaw29.HandoverAltered'. -/
def handoverAlteredCard : Claim7 := { stood := { row := handoverAlteredRow, standIns := [], harness := (true, "30528af1d6458e494bd7230602a1426b2a381d326927fc45b78dbec363438a39"), looks := false }, kinds := [], alts := [], laidByText := true, laidKinds := [.data, .data, .data, .data, .data], laidTests := true, laidLooks := .later }
def HandoverAlteredCardSaid : Prop := Claim7.holds Tryd.pinned (.plain (OpenSpec.ofChange handoverAlteredSpec)) handoverAlteredCard

/-- THE TIED CARD OF 'wageofficelaw29.HandoverOneKey'. -/
def handoverOneKeyCard : Claim7 := { stood := { row := handoverOneKeyRow, standIns := [], harness := (true, "30528af1d6458e494bd7230602a1426b2a381d326927fc45b78dbec363438a39"), looks := false }, kinds := [], alts := [], laidByText := true, laidKinds := [.data, .data, .data, .data, .data], laidTests := true, laidLooks := .later }
def HandoverOneKeyCardSaid : Prop := Claim7.holds Tryd.pinned (.plain (OpenSpec.ofChange handoverOneKeySpec)) handoverOneKeyCard

/-- THE TIED CARD OF 'wageofficelaw29.HandoverBefore'. -/
def handoverBeforeCard : Claim7 := { stood := { row := handoverBeforeRow, standIns := [], harness := (true, "30528af1d6458e494bd7230602a1426b2a381d326927fc45b78dbec363438a39"), looks := false }, kinds := [], alts := [], laidByText := true, laidKinds := [.data, .data, .data, .data, .data], laidTests := true, laidLooks := .later }
def HandoverBeforeCardSaid : Prop := Claim7.holds Tryd.pinned (.plain (OpenSpec.ofChange handoverBeforeSpec)) handoverBeforeCard

/-- THE SECOND FORM's CARD OF 'wageofficelaw29.HandoverTexts'. -/
def handoverTextsUptoCard : Claim7 := { stood := { row := handoverTextsUptoRow, standIns := [], harness := (true, "30528af1d6458e494bd7230602a1426b2a381d326927fc45b78dbec363438a39"), looks := false }, kinds := [], alts := [], laidByText := true, laidKinds := [.data, .data, .data, .data, .data], laidTests := true, laidLooks := .later }
def HandoverTextsUptoCardSaid : Prop := Claim7.holds Tryd.pinned (.plain (OpenSpec.upto handoverTextsSpec)) handoverTextsUptoCard

/-- THE SECOND FORM's CARD OF 'wageofficelaw29.HandoverAccepts'. -/
def handoverAcceptsUptoCard : Claim7 := { stood := { row := handoverAcceptsUptoRow, standIns := [], harness := (true, "30528af1d6458e494bd7230602a1426b2a381d326927fc45b78dbec363438a39"), looks := false }, kinds := [], alts := [], laidByText := true, laidKinds := [.data, .data, .data, .data, .data], laidTests := true, laidLooks := .later }
def HandoverAcceptsUptoCardSaid : Prop := Claim7.holds Tryd.pinned (.plain (OpenSpec.upto handoverAcceptsSpec)) handoverAcceptsUptoCard

/-- THE SECOND FORM's CARD OF 'wageofficelaw29.HandoverAltered'. -/
def handoverAlteredUptoCard : Claim7 := { stood := { row := handoverAlteredUptoRow, standIns := [], harness := (true, "30528af1d6458e494bd7230602a1426b2a381d326927fc45b78dbec363438a39"), looks := false }, kinds := [], alts := [], laidByText := true, laidKinds := [.data, .data, .data, .data, .data], laidTests := true, laidLooks := .later }
def HandoverAlteredUptoCardSaid : Prop := Claim7.holds Tryd.pinned (.plain (OpenSpec.upto handoverAlteredSpec)) handoverAlteredUptoCard

/-- THE SECOND FORM's CARD OF 'wageofficelaw29.HandoverOneKey'. -/
def handoverOneKeyUptoCard : Claim7 := { stood := { row := handoverOneKeyUptoRow, standIns := [], harness := (true, "30528af1d6458e494bd7230602a1426b2a381d326927fc45b78dbec363438a39"), looks := false }, kinds := [], alts := [], laidByText := true, laidKinds := [.data, .data, .data, .data, .data], laidTests := true, laidLooks := .later }
def HandoverOneKeyUptoCardSaid : Prop := Claim7.holds Tryd.pinned (.plain (OpenSpec.upto handoverOneKeySpec)) handoverOneKeyUptoCard

/-- THE SECOND FORM's CARD OF 'wageofficelaw29.HandoverBefore'. -/
def handoverBeforeUptoCard : Claim7 := { stood := { row := handoverBeforeUptoRow, standIns := [], harness := (true, "30528af1d6458e494bd7230602a1426b2a381d326927fc45b78dbec363438a39"), looks := false }, kinds := [], alts := [], laidByText := true, laidKinds := [.data, .data, .data, .data, .data], laidTests := true, laidLooks := .later }
def HandoverBeforeUptoCardSaid : Prop := Claim7.holds Tryd.pinned (.plain (OpenSpec.upto handoverBeforeSpec)) handoverBeforeUptoCard
end Rows
end Go.Proofs.YtmebllhkfepkdaaDoor
