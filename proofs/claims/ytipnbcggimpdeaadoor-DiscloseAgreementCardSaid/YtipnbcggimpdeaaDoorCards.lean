/-
  DERIVED. GIVEN WITH THE SEED: THE CARDS: each row of YtipnbcggimpdeaaDoorRows.lean that lists a variable, with what it lists TIED to the program's text (the seventh form; the later family's looks); each row that meets fmt, with fmt's text TOLD by the authors' own Lean function (tested against real Go, not proved from fmt's source: count such statements apart). THE CARD IS WHAT COUNTS. Prove the row's statement (the work); the ties are given (YtipnbcggimpdeaaDoorTie.lean); close each card by the builder's one call (the guide's Derived/Test/ToyasCard.lean, 'card_holds'). Laid BY PROGRAM, IN A SANDBOX (cutbox-door.mjs). By AI agents, Wed Nov 11 2026. No macro, syntax, notation, axiom, sorry.
-/
import Derived.Test.YtipnbcggimpdeaaDoorRows
import GoSem.ClaimSeven
namespace Go.Proofs.YtipnbcggimpdeaaDoor
namespace Rows

/-- THE TIED CARD OF 'wageofficelaw36.DiscloseExtremes'. -/
def discloseExtremesCard : Claim7 := { stood := { row := discloseExtremesRow, standIns := [], harness := (true, "b8cc50dd22d9361599fe82359164113b088bfbc68fc239765753762f723ae573"), looks := false }, kinds := [], alts := [], laidByText := true, laidKinds := [.data, .data, .data, .data, .data], laidTests := true, laidLooks := .later }
def DiscloseExtremesCardSaid : Prop := Claim7.holds Tryd.pinned (.plain (OpenSpec.ofChange discloseExtremesSpec)) discloseExtremesCard

/-- THE TIED CARD OF 'wageofficelaw36.DiscloseAgreement'. -/
def discloseAgreementCard : Claim7 := { stood := { row := discloseAgreementRow, standIns := [], harness := (true, "b8cc50dd22d9361599fe82359164113b088bfbc68fc239765753762f723ae573"), looks := false }, kinds := [], alts := [], laidByText := true, laidKinds := [.data, .data, .data, .data, .data], laidTests := true, laidLooks := .later }
def DiscloseAgreementCardSaid : Prop := Claim7.holds Tryd.pinned (.plain (OpenSpec.ofChange discloseAgreementSpec)) discloseAgreementCard

/-- THE TIED CARD OF 'wageofficelaw36.DiscloseTexts'. -/
def discloseTextsCard : Claim7 := { stood := { row := discloseTextsRow, standIns := [], harness := (true, "b8cc50dd22d9361599fe82359164113b088bfbc68fc239765753762f723ae573"), looks := false }, kinds := [], alts := [], laidByText := true, laidKinds := [.data, .data, .data, .data, .data], laidTests := true, laidLooks := .later }
def DiscloseTextsCardSaid : Prop := Claim7.holds Tryd.pinned (.plain (OpenSpec.ofChange discloseTextsSpec)) discloseTextsCard

/-- THE TIED CARD OF 'wageofficelaw36.DiscloseHidden'. -/
def discloseHiddenCard : Claim7 := { stood := { row := discloseHiddenRow, standIns := [], harness := (true, "b8cc50dd22d9361599fe82359164113b088bfbc68fc239765753762f723ae573"), looks := false }, kinds := [], alts := [], laidByText := true, laidKinds := [.data, .data, .data, .data, .data], laidTests := true, laidLooks := .later }
def DiscloseHiddenCardSaid : Prop := Claim7.holds Tryd.pinned (.plain (OpenSpec.ofChange discloseHiddenSpec)) discloseHiddenCard

/-- THE TIED CARD OF 'wageofficelaw36.DiscloseShown'. -/
def discloseShownCard : Claim7 := { stood := { row := discloseShownRow, standIns := [], harness := (true, "b8cc50dd22d9361599fe82359164113b088bfbc68fc239765753762f723ae573"), looks := false }, kinds := [], alts := [], laidByText := true, laidKinds := [.data, .data, .data, .data, .data], laidTests := true, laidLooks := .later }
def DiscloseShownCardSaid : Prop := Claim7.holds Tryd.pinned (.plain (OpenSpec.ofChange discloseShownSpec)) discloseShownCard

/-- THE TIED CARD OF 'wageofficelaw36.DiscloseSigned'. -/
def discloseSignedCard : Claim7 := { stood := { row := discloseSignedRow, standIns := [], harness := (true, "b8cc50dd22d9361599fe82359164113b088bfbc68fc239765753762f723ae573"), looks := false }, kinds := [], alts := [], laidByText := true, laidKinds := [.data, .data, .data, .data, .data], laidTests := true, laidLooks := .later }
def DiscloseSignedCardSaid : Prop := Claim7.holds Tryd.pinned (.plain (OpenSpec.ofChange discloseSignedSpec)) discloseSignedCard

/-- THE SECOND FORM's CARD OF 'wageofficelaw36.DiscloseExtremes'. -/
def discloseExtremesUptoCard : Claim7 := { stood := { row := discloseExtremesUptoRow, standIns := [], harness := (true, "b8cc50dd22d9361599fe82359164113b088bfbc68fc239765753762f723ae573"), looks := false }, kinds := [], alts := [], laidByText := true, laidKinds := [.data, .data, .data, .data, .data], laidTests := true, laidLooks := .later }
def DiscloseExtremesUptoCardSaid : Prop := Claim7.holds Tryd.pinned (.plain (OpenSpec.upto discloseExtremesSpec)) discloseExtremesUptoCard

/-- THE SECOND FORM's CARD OF 'wageofficelaw36.DiscloseAgreement'. -/
def discloseAgreementUptoCard : Claim7 := { stood := { row := discloseAgreementUptoRow, standIns := [], harness := (true, "b8cc50dd22d9361599fe82359164113b088bfbc68fc239765753762f723ae573"), looks := false }, kinds := [], alts := [], laidByText := true, laidKinds := [.data, .data, .data, .data, .data], laidTests := true, laidLooks := .later }
def DiscloseAgreementUptoCardSaid : Prop := Claim7.holds Tryd.pinned (.plain (OpenSpec.upto discloseAgreementSpec)) discloseAgreementUptoCard

/-- THE SECOND FORM's CARD OF 'wageofficelaw36.DiscloseTexts'. -/
def discloseTextsUptoCard : Claim7 := { stood := { row := discloseTextsUptoRow, standIns := [], harness := (true, "b8cc50dd22d9361599fe82359164113b088bfbc68fc239765753762f723ae573"), looks := false }, kinds := [], alts := [], laidByText := true, laidKinds := [.data, .data, .data, .data, .data], laidTests := true, laidLooks := .later }
def DiscloseTextsUptoCardSaid : Prop := Claim7.holds Tryd.pinned (.plain (OpenSpec.upto discloseTextsSpec)) discloseTextsUptoCard

/-- THE SECOND FORM's CARD OF 'wageofficelaw36.DiscloseHidden'. -/
def discloseHiddenUptoCard : Claim7 := { stood := { row := discloseHiddenUptoRow, standIns := [], harness := (true, "b8cc50dd22d9361599fe82359164113b088bfbc68fc239765753762f723ae573"), looks := false }, kinds := [], alts := [], laidByText := true, laidKinds := [.data, .data, .data, .data, .data], laidTests := true, laidLooks := .later }
def DiscloseHiddenUptoCardSaid : Prop := Claim7.holds Tryd.pinned (.plain (OpenSpec.upto discloseHiddenSpec)) discloseHiddenUptoCard

/-- THE SECOND FORM's CARD OF 'wageofficelaw36.DiscloseShown'. -/
def discloseShownUptoCard : Claim7 := { stood := { row := discloseShownUptoRow, standIns := [], harness := (true, "b8cc50dd22d9361599fe82359164113b088bfbc68fc239765753762f723ae573"), looks := false }, kinds := [], alts := [], laidByText := true, laidKinds := [.data, .data, .data, .data, .data], laidTests := true, laidLooks := .later }
def DiscloseShownUptoCardSaid : Prop := Claim7.holds Tryd.pinned (.plain (OpenSpec.upto discloseShownSpec)) discloseShownUptoCard

/-- THE SECOND FORM's CARD OF 'wageofficelaw36.DiscloseSigned'. -/
def discloseSignedUptoCard : Claim7 := { stood := { row := discloseSignedUptoRow, standIns := [], harness := (true, "b8cc50dd22d9361599fe82359164113b088bfbc68fc239765753762f723ae573"), looks := false }, kinds := [], alts := [], laidByText := true, laidKinds := [.data, .data, .data, .data, .data], laidTests := true, laidLooks := .later }
def DiscloseSignedUptoCardSaid : Prop := Claim7.holds Tryd.pinned (.plain (OpenSpec.upto discloseSignedSpec)) discloseSignedUptoCard
end Rows
end Go.Proofs.YtipnbcggimpdeaaDoor
