/-
  DERIVED. GIVEN WITH THE SEED: THE CARDS: each row of YtnfjpmchdbgonaaDoorRows.lean that lists a variable, with what it lists TIED to the program's text (the seventh form; the later family's looks); each row that meets fmt, with fmt's text TOLD by the authors' own Lean function (tested against real Go, not proved from fmt's source: count such statements apart). THE CARD IS WHAT COUNTS. Prove the row's statement (the work); the ties are given (YtnfjpmchdbgonaaDoorTie.lean); close each card by the builder's one call (the guide's Derived/Test/ToyasCard.lean, 'card_holds'). Laid BY PROGRAM, IN A SANDBOX (cutbox-door.mjs). By AI agents, Wed Nov 11 2026. No macro, syntax, notation, axiom, sorry.
-/
import Derived.Test.YtnfjpmchdbgonaaDoorRows
import GoSem.ClaimSeven
namespace Go.Proofs.YtnfjpmchdbgonaaDoor
namespace Rows

/-- THE TIED CARD OF 'wageofficelaw02.CalendarMatchesReference'. -/
def calendarMatchesReferenceCard : Claim7 := { stood := { row := calendarMatchesReferenceRow, standIns := [], harness := (true, "9834af646132fa019008fdedb92da1ee0047ea4a4e87027fdd7c31539e233f35"), looks := false }, kinds := [], alts := [], laidByText := true, laidKinds := [.data, .data, .data, .data], laidTests := true, laidLooks := .later }
def CalendarMatchesReferenceCardSaid : Prop := Claim7.holds Tryd.pinned (.plain (OpenSpec.ofChange calendarMatchesReferenceSpec)) calendarMatchesReferenceCard

/-- THE TIED CARD OF 'wageofficelaw02.CalendarInverse'. -/
def calendarInverseCard : Claim7 := { stood := { row := calendarInverseRow, standIns := [], harness := (true, "9834af646132fa019008fdedb92da1ee0047ea4a4e87027fdd7c31539e233f35"), looks := false }, kinds := [], alts := [], laidByText := true, laidKinds := [.data, .data, .data, .data], laidTests := true, laidLooks := .later }
def CalendarInverseCardSaid : Prop := Claim7.holds Tryd.pinned (.plain (OpenSpec.ofChange calendarInverseSpec)) calendarInverseCard

/-- THE TIED CARD OF 'wageofficelaw02.CalendarNext'. -/
def calendarNextCard : Claim7 := { stood := { row := calendarNextRow, standIns := [], harness := (true, "9834af646132fa019008fdedb92da1ee0047ea4a4e87027fdd7c31539e233f35"), looks := false }, kinds := [], alts := [], laidByText := true, laidKinds := [.data, .data, .data, .data], laidTests := true, laidLooks := .later }
def CalendarNextCardSaid : Prop := Claim7.holds Tryd.pinned (.plain (OpenSpec.ofChange calendarNextSpec)) calendarNextCard

/-- THE TIED CARD OF 'wageofficelaw02.CalendarMonths'. -/
def calendarMonthsCard : Claim7 := { stood := { row := calendarMonthsRow, standIns := [], harness := (true, "9834af646132fa019008fdedb92da1ee0047ea4a4e87027fdd7c31539e233f35"), looks := false }, kinds := [], alts := [], laidByText := true, laidKinds := [.data, .data, .data, .data], laidTests := true, laidLooks := .later }
def CalendarMonthsCardSaid : Prop := Claim7.holds Tryd.pinned (.plain (OpenSpec.ofChange calendarMonthsSpec)) calendarMonthsCard

/-- THE TIED CARD OF 'wageofficelaw02.CalendarLater'. -/
def calendarLaterCard : Claim7 := { stood := { row := calendarLaterRow, standIns := [], harness := (true, "9834af646132fa019008fdedb92da1ee0047ea4a4e87027fdd7c31539e233f35"), looks := false }, kinds := [], alts := [], laidByText := true, laidKinds := [.data, .data, .data, .data], laidTests := true, laidLooks := .later }
def CalendarLaterCardSaid : Prop := Claim7.holds Tryd.pinned (.plain (OpenSpec.ofChange calendarLaterSpec)) calendarLaterCard

/-- THE TIED CARD OF 'wageofficelaw02.CalendarOutside'. -/
def calendarOutsideCard : Claim7 := { stood := { row := calendarOutsideRow, standIns := [], harness := (true, "9834af646132fa019008fdedb92da1ee0047ea4a4e87027fdd7c31539e233f35"), looks := false }, kinds := [], alts := [], laidByText := true, laidKinds := [.data, .data, .data, .data], laidTests := true, laidLooks := .later }
def CalendarOutsideCardSaid : Prop := Claim7.holds Tryd.pinned (.plain (OpenSpec.ofChange calendarOutsideSpec)) calendarOutsideCard

/-- THE SECOND FORM's CARD OF 'wageofficelaw02.CalendarMatchesReference'. -/
def calendarMatchesReferenceUptoCard : Claim7 := { stood := { row := calendarMatchesReferenceUptoRow, standIns := [], harness := (true, "9834af646132fa019008fdedb92da1ee0047ea4a4e87027fdd7c31539e233f35"), looks := false }, kinds := [], alts := [], laidByText := true, laidKinds := [.data, .data, .data, .data], laidTests := true, laidLooks := .later }
def CalendarMatchesReferenceUptoCardSaid : Prop := Claim7.holds Tryd.pinned (.plain (OpenSpec.upto calendarMatchesReferenceSpec)) calendarMatchesReferenceUptoCard

/-- THE SECOND FORM's CARD OF 'wageofficelaw02.CalendarInverse'. -/
def calendarInverseUptoCard : Claim7 := { stood := { row := calendarInverseUptoRow, standIns := [], harness := (true, "9834af646132fa019008fdedb92da1ee0047ea4a4e87027fdd7c31539e233f35"), looks := false }, kinds := [], alts := [], laidByText := true, laidKinds := [.data, .data, .data, .data], laidTests := true, laidLooks := .later }
def CalendarInverseUptoCardSaid : Prop := Claim7.holds Tryd.pinned (.plain (OpenSpec.upto calendarInverseSpec)) calendarInverseUptoCard

/-- THE SECOND FORM's CARD OF 'wageofficelaw02.CalendarNext'. -/
def calendarNextUptoCard : Claim7 := { stood := { row := calendarNextUptoRow, standIns := [], harness := (true, "9834af646132fa019008fdedb92da1ee0047ea4a4e87027fdd7c31539e233f35"), looks := false }, kinds := [], alts := [], laidByText := true, laidKinds := [.data, .data, .data, .data], laidTests := true, laidLooks := .later }
def CalendarNextUptoCardSaid : Prop := Claim7.holds Tryd.pinned (.plain (OpenSpec.upto calendarNextSpec)) calendarNextUptoCard

/-- THE SECOND FORM's CARD OF 'wageofficelaw02.CalendarMonths'. -/
def calendarMonthsUptoCard : Claim7 := { stood := { row := calendarMonthsUptoRow, standIns := [], harness := (true, "9834af646132fa019008fdedb92da1ee0047ea4a4e87027fdd7c31539e233f35"), looks := false }, kinds := [], alts := [], laidByText := true, laidKinds := [.data, .data, .data, .data], laidTests := true, laidLooks := .later }
def CalendarMonthsUptoCardSaid : Prop := Claim7.holds Tryd.pinned (.plain (OpenSpec.upto calendarMonthsSpec)) calendarMonthsUptoCard

/-- THE SECOND FORM's CARD OF 'wageofficelaw02.CalendarLater'. -/
def calendarLaterUptoCard : Claim7 := { stood := { row := calendarLaterUptoRow, standIns := [], harness := (true, "9834af646132fa019008fdedb92da1ee0047ea4a4e87027fdd7c31539e233f35"), looks := false }, kinds := [], alts := [], laidByText := true, laidKinds := [.data, .data, .data, .data], laidTests := true, laidLooks := .later }
def CalendarLaterUptoCardSaid : Prop := Claim7.holds Tryd.pinned (.plain (OpenSpec.upto calendarLaterSpec)) calendarLaterUptoCard

/-- THE SECOND FORM's CARD OF 'wageofficelaw02.CalendarOutside'. -/
def calendarOutsideUptoCard : Claim7 := { stood := { row := calendarOutsideUptoRow, standIns := [], harness := (true, "9834af646132fa019008fdedb92da1ee0047ea4a4e87027fdd7c31539e233f35"), looks := false }, kinds := [], alts := [], laidByText := true, laidKinds := [.data, .data, .data, .data], laidTests := true, laidLooks := .later }
def CalendarOutsideUptoCardSaid : Prop := Claim7.holds Tryd.pinned (.plain (OpenSpec.upto calendarOutsideSpec)) calendarOutsideUptoCard
end Rows
end Go.Proofs.YtnfjpmchdbgonaaDoor
