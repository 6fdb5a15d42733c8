/-
  DERIVED. GIVEN WITH THE SEED: THE CARDS: each row of YtpmgimddoomieaaDoorRows.lean that lists a variable, with what it lists TIED to the program's text (the seventh form; the later family's looks); each row that meets fmt, with fmt's text TOLD by the authors' own Lean function (tested against real Go, not proved from fmt's source: count such statements apart). THE CARD IS WHAT COUNTS. Prove the row's statement (the work); the ties are given (YtpmgimddoomieaaDoorTie.lean); close each card by the builder's one call (the guide's Derived/Test/ToyasCard.lean, 'card_holds'). Laid BY PROGRAM, IN A SANDBOX (cutbox-door.mjs). By AI agents, Wed Nov 11 2026. No macro, syntax, notation, axiom, sorry.
-/
import Derived.Test.YtpmgimddoomieaaDoorRows
import GoSem.ClaimSeven
namespace Go.Proofs.YtpmgimddoomieaaDoor
namespace Rows

/-- THE TIED CARD OF 'wageofficelaw23.DigestMatchesReference'. -/
def digestMatchesReferenceCard : Claim7 := { stood := { row := digestMatchesReferenceRow, standIns := [], harness := (true, "49a42ecf4bafae17c522b87474be2c3e149311eeb75904cdf5664ed09161df54"), looks := false }, kinds := [], alts := [], laidByText := true, laidKinds := [.data], laidTests := true, laidLooks := .later }
def DigestMatchesReferenceCardSaid : Prop := Claim7.holds Tryd.pinned (.plain (OpenSpec.ofChange digestMatchesReferenceSpec)) digestMatchesReferenceCard

/-- THE TIED CARD OF 'wageofficelaw23.DigestOneByte'. -/
def digestOneByteCard : Claim7 := { stood := { row := digestOneByteRow, standIns := [], harness := (true, "49a42ecf4bafae17c522b87474be2c3e149311eeb75904cdf5664ed09161df54"), looks := false }, kinds := [], alts := [], laidByText := true, laidKinds := [.data], laidTests := true, laidLooks := .later }
def DigestOneByteCardSaid : Prop := Claim7.holds Tryd.pinned (.plain (OpenSpec.ofChange digestOneByteSpec)) digestOneByteCard

/-- THE TIED CARD OF 'wageofficelaw23.DigestPairByte'. -/
def digestPairByteCard : Claim7 := { stood := { row := digestPairByteRow, standIns := [], harness := (true, "49a42ecf4bafae17c522b87474be2c3e149311eeb75904cdf5664ed09161df54"), looks := false }, kinds := [], alts := [], laidByText := true, laidKinds := [.data], laidTests := true, laidLooks := .later }
def DigestPairByteCardSaid : Prop := Claim7.holds Tryd.pinned (.plain (OpenSpec.ofChange digestPairByteSpec)) digestPairByteCard

/-- THE TIED CARD OF 'wageofficelaw23.DigestExtends'. -/
def digestExtendsCard : Claim7 := { stood := { row := digestExtendsRow, standIns := [], harness := (true, "49a42ecf4bafae17c522b87474be2c3e149311eeb75904cdf5664ed09161df54"), looks := false }, kinds := [], alts := [], laidByText := true, laidKinds := [.data], laidTests := true, laidLooks := .later }
def DigestExtendsCardSaid : Prop := Claim7.holds Tryd.pinned (.plain (OpenSpec.ofChange digestExtendsSpec)) digestExtendsCard

/-- THE TIED CARD OF 'wageofficelaw23.DigestTexts'. -/
def digestTextsCard : Claim7 := { stood := { row := digestTextsRow, standIns := [], harness := (true, "49a42ecf4bafae17c522b87474be2c3e149311eeb75904cdf5664ed09161df54"), looks := false }, kinds := [], alts := [], laidByText := true, laidKinds := [.data], laidTests := true, laidLooks := .later }
def DigestTextsCardSaid : Prop := Claim7.holds Tryd.pinned (.plain (OpenSpec.ofChange digestTextsSpec)) digestTextsCard

/-- THE TIED CARD OF 'wageofficelaw23.DigestSteps'. -/
def digestStepsCard : Claim7 := { stood := { row := digestStepsRow, standIns := [], harness := (true, "49a42ecf4bafae17c522b87474be2c3e149311eeb75904cdf5664ed09161df54"), looks := false }, kinds := [], alts := [], laidByText := true, laidKinds := [.data], laidTests := true, laidLooks := .later }
def DigestStepsCardSaid : Prop := Claim7.holds Tryd.pinned (.plain (OpenSpec.ofChange digestStepsSpec)) digestStepsCard

/-- THE SECOND FORM's CARD OF 'wageofficelaw23.DigestMatchesReference'. -/
def digestMatchesReferenceUptoCard : Claim7 := { stood := { row := digestMatchesReferenceUptoRow, standIns := [], harness := (true, "49a42ecf4bafae17c522b87474be2c3e149311eeb75904cdf5664ed09161df54"), looks := false }, kinds := [], alts := [], laidByText := true, laidKinds := [.data], laidTests := true, laidLooks := .later }
def DigestMatchesReferenceUptoCardSaid : Prop := Claim7.holds Tryd.pinned (.plain (OpenSpec.upto digestMatchesReferenceSpec)) digestMatchesReferenceUptoCard

/-- THE SECOND FORM's CARD OF 'wageofficelaw23.DigestOneByte'. -/
def digestOneByteUptoCard : Claim7 := { stood := { row := digestOneByteUptoRow, standIns := [], harness := (true, "49a42ecf4bafae17c522b87474be2c3e149311eeb75904cdf5664ed09161df54"), looks := false }, kinds := [], alts := [], laidByText := true, laidKinds := [.data], laidTests := true, laidLooks := .later }
def DigestOneByteUptoCardSaid : Prop := Claim7.holds Tryd.pinned (.plain (OpenSpec.upto digestOneByteSpec)) digestOneByteUptoCard

/-- THE SECOND FORM's CARD OF 'wageofficelaw23.DigestPairByte'. -/
def digestPairByteUptoCard : Claim7 := { stood := { row := digestPairByteUptoRow, standIns := [], harness := (true, "49a42ecf4bafae17c522b87474be2c3e149311eeb75904cdf5664ed09161df54"), looks := false }, kinds := [], alts := [], laidByText := true, laidKinds := [.data], laidTests := true, laidLooks := .later }
def DigestPairByteUptoCardSaid : Prop := Claim7.holds Tryd.pinned (.plain (OpenSpec.upto digestPairByteSpec)) digestPairByteUptoCard

/-- THE SECOND FORM's CARD OF 'wageofficelaw23.DigestExtends'. -/
def digestExtendsUptoCard : Claim7 := { stood := { row := digestExtendsUptoRow, standIns := [], harness := (true, "49a42ecf4bafae17c522b87474be2c3e149311eeb75904cdf5664ed09161df54"), looks := false }, kinds := [], alts := [], laidByText := true, laidKinds := [.data], laidTests := true, laidLooks := .later }
def DigestExtendsUptoCardSaid : Prop := Claim7.holds Tryd.pinned (.plain (OpenSpec.upto digestExtendsSpec)) digestExtendsUptoCard

/-- THE SECOND FORM's CARD OF 'wageofficelaw23.DigestTexts'. -/
def digestTextsUptoCard : Claim7 := { stood := { row := digestTextsUptoRow, standIns := [], harness := (true, "49a42ecf4bafae17c522b87474be2c3e149311eeb75904cdf5664ed09161df54"), looks := false }, kinds := [], alts := [], laidByText := true, laidKinds := [.data], laidTests := true, laidLooks := .later }
def DigestTextsUptoCardSaid : Prop := Claim7.holds Tryd.pinned (.plain (OpenSpec.upto digestTextsSpec)) digestTextsUptoCard

/-- THE SECOND FORM's CARD OF 'wageofficelaw23.DigestSteps'. -/
def digestStepsUptoCard : Claim7 := { stood := { row := digestStepsUptoRow, standIns := [], harness := (true, "49a42ecf4bafae17c522b87474be2c3e149311eeb75904cdf5664ed09161df54"), looks := false }, kinds := [], alts := [], laidByText := true, laidKinds := [.data], laidTests := true, laidLooks := .later }
def DigestStepsUptoCardSaid : Prop := Claim7.holds Tryd.pinned (.plain (OpenSpec.upto digestStepsSpec)) digestStepsUptoCard
end Rows
end Go.Proofs.YtpmgimddoomieaaDoor
