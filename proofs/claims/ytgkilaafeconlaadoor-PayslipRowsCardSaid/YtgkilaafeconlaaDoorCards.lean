/-
  DERIVED. GIVEN WITH THE SEED: THE CARDS: each row of YtgkilaafeconlaaDoorRows.lean that lists a variable, with what it lists TIED to the program's text (the seventh form; the later family's looks); each row that meets fmt, with fmt's text TOLD by the authors' own Lean function (tested against real Go, not proved from fmt's source: count such statements apart). THE CARD IS WHAT COUNTS. Prove the row's statement (the work); the ties are given (YtgkilaafeconlaaDoorTie.lean); close each card by the builder's one call (the guide's Derived/Test/ToyasCard.lean, 'card_holds'). Laid BY PROGRAM, IN A SANDBOX (cutbox-door.mjs). By AI agents, Wed Nov 11 2026. No macro, syntax, notation, axiom, sorry.
-/
import Derived.Test.YtgkilaafeconlaaDoorRows
import GoSem.ClaimSeven
namespace Go.Proofs.YtgkilaafeconlaaDoor
namespace Rows

/-- THE TIED CARD OF 'wageofficelaw35.PayslipMatchesReference'. -/
def payslipMatchesReferenceCard : Claim7 := { stood := { row := payslipMatchesReferenceRow, standIns := [], harness := (true, "f55794b5ac59e64ddfc1e87b5ebb6c9303b859cbc090e193619a626bea759676"), looks := false }, kinds := [], alts := [], laidByText := true, laidKinds := [.data, .data, .data, .data, .data], laidTests := true, laidLooks := .later }
def PayslipMatchesReferenceCardSaid : Prop := Claim7.holds Tryd.pinned (.plain (OpenSpec.ofChange payslipMatchesReferenceSpec)) payslipMatchesReferenceCard

/-- THE TIED CARD OF 'wageofficelaw35.PayslipRows'. -/
def payslipRowsCard : Claim7 := { stood := { row := payslipRowsRow, standIns := [], harness := (true, "f55794b5ac59e64ddfc1e87b5ebb6c9303b859cbc090e193619a626bea759676"), looks := false }, kinds := [], alts := [], laidByText := true, laidKinds := [.data, .data, .data, .data, .data], laidTests := true, laidLooks := .later }
def PayslipRowsCardSaid : Prop := Claim7.holds Tryd.pinned (.plain (OpenSpec.ofChange payslipRowsSpec)) payslipRowsCard

/-- THE TIED CARD OF 'wageofficelaw35.PayslipLeaves'. -/
def payslipLeavesCard : Claim7 := { stood := { row := payslipLeavesRow, standIns := [], harness := (true, "f55794b5ac59e64ddfc1e87b5ebb6c9303b859cbc090e193619a626bea759676"), looks := false }, kinds := [], alts := [], laidByText := true, laidKinds := [.data, .data, .data, .data, .data], laidTests := true, laidLooks := .later }
def PayslipLeavesCardSaid : Prop := Claim7.holds Tryd.pinned (.plain (OpenSpec.ofChange payslipLeavesSpec)) payslipLeavesCard

/-- THE TIED CARD OF 'wageofficelaw35.PayslipSeeds'. -/
def payslipSeedsCard : Claim7 := { stood := { row := payslipSeedsRow, standIns := [], harness := (true, "f55794b5ac59e64ddfc1e87b5ebb6c9303b859cbc090e193619a626bea759676"), looks := false }, kinds := [], alts := [], laidByText := true, laidKinds := [.data, .data, .data, .data, .data], laidTests := true, laidLooks := .later }
def PayslipSeedsCardSaid : Prop := Claim7.holds Tryd.pinned (.plain (OpenSpec.ofChange payslipSeedsSpec)) payslipSeedsCard

/-- THE TIED CARD OF 'wageofficelaw35.PayslipCommitments'. -/
def payslipCommitmentsCard : Claim7 := { stood := { row := payslipCommitmentsRow, standIns := [], harness := (true, "f55794b5ac59e64ddfc1e87b5ebb6c9303b859cbc090e193619a626bea759676"), looks := false }, kinds := [], alts := [], laidByText := true, laidKinds := [.data, .data, .data, .data, .data], laidTests := true, laidLooks := .later }
def PayslipCommitmentsCardSaid : Prop := Claim7.holds Tryd.pinned (.plain (OpenSpec.ofChange payslipCommitmentsSpec)) payslipCommitmentsCard

/-- THE SECOND FORM's CARD OF 'wageofficelaw35.PayslipMatchesReference'. -/
def payslipMatchesReferenceUptoCard : Claim7 := { stood := { row := payslipMatchesReferenceUptoRow, standIns := [], harness := (true, "f55794b5ac59e64ddfc1e87b5ebb6c9303b859cbc090e193619a626bea759676"), looks := false }, kinds := [], alts := [], laidByText := true, laidKinds := [.data, .data, .data, .data, .data], laidTests := true, laidLooks := .later }
def PayslipMatchesReferenceUptoCardSaid : Prop := Claim7.holds Tryd.pinned (.plain (OpenSpec.upto payslipMatchesReferenceSpec)) payslipMatchesReferenceUptoCard

/-- THE SECOND FORM's CARD OF 'wageofficelaw35.PayslipRows'. -/
def payslipRowsUptoCard : Claim7 := { stood := { row := payslipRowsUptoRow, standIns := [], harness := (true, "f55794b5ac59e64ddfc1e87b5ebb6c9303b859cbc090e193619a626bea759676"), looks := false }, kinds := [], alts := [], laidByText := true, laidKinds := [.data, .data, .data, .data, .data], laidTests := true, laidLooks := .later }
def PayslipRowsUptoCardSaid : Prop := Claim7.holds Tryd.pinned (.plain (OpenSpec.upto payslipRowsSpec)) payslipRowsUptoCard

/-- THE SECOND FORM's CARD OF 'wageofficelaw35.PayslipLeaves'. -/
def payslipLeavesUptoCard : Claim7 := { stood := { row := payslipLeavesUptoRow, standIns := [], harness := (true, "f55794b5ac59e64ddfc1e87b5ebb6c9303b859cbc090e193619a626bea759676"), looks := false }, kinds := [], alts := [], laidByText := true, laidKinds := [.data, .data, .data, .data, .data], laidTests := true, laidLooks := .later }
def PayslipLeavesUptoCardSaid : Prop := Claim7.holds Tryd.pinned (.plain (OpenSpec.upto payslipLeavesSpec)) payslipLeavesUptoCard

/-- THE SECOND FORM's CARD OF 'wageofficelaw35.PayslipSeeds'. -/
def payslipSeedsUptoCard : Claim7 := { stood := { row := payslipSeedsUptoRow, standIns := [], harness := (true, "f55794b5ac59e64ddfc1e87b5ebb6c9303b859cbc090e193619a626bea759676"), looks := false }, kinds := [], alts := [], laidByText := true, laidKinds := [.data, .data, .data, .data, .data], laidTests := true, laidLooks := .later }
def PayslipSeedsUptoCardSaid : Prop := Claim7.holds Tryd.pinned (.plain (OpenSpec.upto payslipSeedsSpec)) payslipSeedsUptoCard

/-- THE SECOND FORM's CARD OF 'wageofficelaw35.PayslipCommitments'. -/
def payslipCommitmentsUptoCard : Claim7 := { stood := { row := payslipCommitmentsUptoRow, standIns := [], harness := (true, "f55794b5ac59e64ddfc1e87b5ebb6c9303b859cbc090e193619a626bea759676"), looks := false }, kinds := [], alts := [], laidByText := true, laidKinds := [.data, .data, .data, .data, .data], laidTests := true, laidLooks := .later }
def PayslipCommitmentsUptoCardSaid : Prop := Claim7.holds Tryd.pinned (.plain (OpenSpec.upto payslipCommitmentsSpec)) payslipCommitmentsUptoCard
end Rows
end Go.Proofs.YtgkilaafeconlaaDoor
