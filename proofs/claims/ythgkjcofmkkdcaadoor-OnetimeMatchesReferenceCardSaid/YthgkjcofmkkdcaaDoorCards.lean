/-
  DERIVED. GIVEN WITH THE SEED: THE CARDS: each row of YthgkjcofmkkdcaaDoorRows.lean that lists a variable, with what it lists TIED to the program's text (the seventh form; the later family's looks); each row that meets fmt, with fmt's text TOLD by the authors' own Lean function (tested against real Go, not proved from fmt's source: count such statements apart). THE CARD IS WHAT COUNTS. Prove the row's statement (the work); the ties are given (YthgkjcofmkkdcaaDoorTie.lean); close each card by the builder's one call (the guide's Derived/Test/ToyasCard.lean, 'card_holds'). Laid BY PROGRAM, IN A SANDBOX (cutbox-door.mjs). By AI agents, Wed Nov 11 2026. No macro, syntax, notation, axiom, sorry.
-/
import Derived.Test.YthgkjcofmkkdcaaDoorRows
import GoSem.ClaimSeven
namespace Go.Proofs.YthgkjcofmkkdcaaDoor
namespace Rows

/-- THE TIED CARD OF 'wageofficelaw25.OnetimeMatchesReference'. -/
def onetimeMatchesReferenceCard : Claim7 := { stood := { row := onetimeMatchesReferenceRow, standIns := [], harness := (true, "172de9c4616c33233a152dfd251683ac408e896c4ab4bf510bc9866be7214dca"), looks := false }, kinds := [], alts := [], laidByText := true, laidKinds := [.data, .data, .data, .data], laidTests := true, laidLooks := .later }
def OnetimeMatchesReferenceCardSaid : Prop := Claim7.holds Tryd.pinned (.plain (OpenSpec.ofChange onetimeMatchesReferenceSpec)) onetimeMatchesReferenceCard

/-- THE TIED CARD OF 'wageofficelaw25.OnetimeSigned'. -/
def onetimeSignedCard : Claim7 := { stood := { row := onetimeSignedRow, standIns := [], harness := (true, "172de9c4616c33233a152dfd251683ac408e896c4ab4bf510bc9866be7214dca"), looks := false }, kinds := [], alts := [], laidByText := true, laidKinds := [.data, .data, .data, .data], laidTests := true, laidLooks := .later }
def OnetimeSignedCardSaid : Prop := Claim7.holds Tryd.pinned (.plain (OpenSpec.ofChange onetimeSignedSpec)) onetimeSignedCard

/-- THE TIED CARD OF 'wageofficelaw25.OnetimeForms'. -/
def onetimeFormsCard : Claim7 := { stood := { row := onetimeFormsRow, standIns := [], harness := (true, "172de9c4616c33233a152dfd251683ac408e896c4ab4bf510bc9866be7214dca"), looks := false }, kinds := [], alts := [], laidByText := true, laidKinds := [.data, .data, .data, .data], laidTests := true, laidLooks := .later }
def OnetimeFormsCardSaid : Prop := Claim7.holds Tryd.pinned (.plain (OpenSpec.ofChange onetimeFormsSpec)) onetimeFormsCard

/-- THE TIED CARD OF 'wageofficelaw25.OnetimeSteps'. -/
def onetimeStepsCard : Claim7 := { stood := { row := onetimeStepsRow, standIns := [], harness := (true, "172de9c4616c33233a152dfd251683ac408e896c4ab4bf510bc9866be7214dca"), looks := false }, kinds := [], alts := [], laidByText := true, laidKinds := [.data, .data, .data, .data], laidTests := true, laidLooks := .later }
def OnetimeStepsCardSaid : Prop := Claim7.holds Tryd.pinned (.plain (OpenSpec.ofChange onetimeStepsSpec)) onetimeStepsCard

/-- THE TIED CARD OF 'wageofficelaw25.OnetimeReuse'. -/
def onetimeReuseCard : Claim7 := { stood := { row := onetimeReuseRow, standIns := [], harness := (true, "172de9c4616c33233a152dfd251683ac408e896c4ab4bf510bc9866be7214dca"), looks := false }, kinds := [], alts := [], laidByText := true, laidKinds := [.data, .data, .data, .data], laidTests := true, laidLooks := .later }
def OnetimeReuseCardSaid : Prop := Claim7.holds Tryd.pinned (.plain (OpenSpec.ofChange onetimeReuseSpec)) onetimeReuseCard

/-- THE TIED CARD OF 'wageofficelaw25.OnetimeBinding'. -/
def onetimeBindingCard : Claim7 := { stood := { row := onetimeBindingRow, standIns := [], harness := (true, "172de9c4616c33233a152dfd251683ac408e896c4ab4bf510bc9866be7214dca"), looks := false }, kinds := [], alts := [], laidByText := true, laidKinds := [.data, .data, .data, .data], laidTests := true, laidLooks := .later }
def OnetimeBindingCardSaid : Prop := Claim7.holds Tryd.pinned (.plain (OpenSpec.ofChange onetimeBindingSpec)) onetimeBindingCard

/-- THE SECOND FORM's CARD OF 'wageofficelaw25.OnetimeMatchesReference'. -/
def onetimeMatchesReferenceUptoCard : Claim7 := { stood := { row := onetimeMatchesReferenceUptoRow, standIns := [], harness := (true, "172de9c4616c33233a152dfd251683ac408e896c4ab4bf510bc9866be7214dca"), looks := false }, kinds := [], alts := [], laidByText := true, laidKinds := [.data, .data, .data, .data], laidTests := true, laidLooks := .later }
def OnetimeMatchesReferenceUptoCardSaid : Prop := Claim7.holds Tryd.pinned (.plain (OpenSpec.upto onetimeMatchesReferenceSpec)) onetimeMatchesReferenceUptoCard

/-- THE SECOND FORM's CARD OF 'wageofficelaw25.OnetimeSigned'. -/
def onetimeSignedUptoCard : Claim7 := { stood := { row := onetimeSignedUptoRow, standIns := [], harness := (true, "172de9c4616c33233a152dfd251683ac408e896c4ab4bf510bc9866be7214dca"), looks := false }, kinds := [], alts := [], laidByText := true, laidKinds := [.data, .data, .data, .data], laidTests := true, laidLooks := .later }
def OnetimeSignedUptoCardSaid : Prop := Claim7.holds Tryd.pinned (.plain (OpenSpec.upto onetimeSignedSpec)) onetimeSignedUptoCard

/-- THE SECOND FORM's CARD OF 'wageofficelaw25.OnetimeForms'. -/
def onetimeFormsUptoCard : Claim7 := { stood := { row := onetimeFormsUptoRow, standIns := [], harness := (true, "172de9c4616c33233a152dfd251683ac408e896c4ab4bf510bc9866be7214dca"), looks := false }, kinds := [], alts := [], laidByText := true, laidKinds := [.data, .data, .data, .data], laidTests := true, laidLooks := .later }
def OnetimeFormsUptoCardSaid : Prop := Claim7.holds Tryd.pinned (.plain (OpenSpec.upto onetimeFormsSpec)) onetimeFormsUptoCard

/-- THE SECOND FORM's CARD OF 'wageofficelaw25.OnetimeSteps'. -/
def onetimeStepsUptoCard : Claim7 := { stood := { row := onetimeStepsUptoRow, standIns := [], harness := (true, "172de9c4616c33233a152dfd251683ac408e896c4ab4bf510bc9866be7214dca"), looks := false }, kinds := [], alts := [], laidByText := true, laidKinds := [.data, .data, .data, .data], laidTests := true, laidLooks := .later }
def OnetimeStepsUptoCardSaid : Prop := Claim7.holds Tryd.pinned (.plain (OpenSpec.upto onetimeStepsSpec)) onetimeStepsUptoCard

/-- THE SECOND FORM's CARD OF 'wageofficelaw25.OnetimeReuse'. -/
def onetimeReuseUptoCard : Claim7 := { stood := { row := onetimeReuseUptoRow, standIns := [], harness := (true, "172de9c4616c33233a152dfd251683ac408e896c4ab4bf510bc9866be7214dca"), looks := false }, kinds := [], alts := [], laidByText := true, laidKinds := [.data, .data, .data, .data], laidTests := true, laidLooks := .later }
def OnetimeReuseUptoCardSaid : Prop := Claim7.holds Tryd.pinned (.plain (OpenSpec.upto onetimeReuseSpec)) onetimeReuseUptoCard

/-- THE SECOND FORM's CARD OF 'wageofficelaw25.OnetimeBinding'. -/
def onetimeBindingUptoCard : Claim7 := { stood := { row := onetimeBindingUptoRow, standIns := [], harness := (true, "172de9c4616c33233a152dfd251683ac408e896c4ab4bf510bc9866be7214dca"), looks := false }, kinds := [], alts := [], laidByText := true, laidKinds := [.data, .data, .data, .data], laidTests := true, laidLooks := .later }
def OnetimeBindingUptoCardSaid : Prop := Claim7.holds Tryd.pinned (.plain (OpenSpec.upto onetimeBindingSpec)) onetimeBindingUptoCard
end Rows
end Go.Proofs.YthgkjcofmkkdcaaDoor
