/-
  DERIVED. GIVEN WITH THE SEED: THE CARDS: each row of YtipkgjbfannniaaDoorRows.lean that lists a variable, with what it lists TIED to the program's text (the seventh form; the later family's looks); each row that meets fmt, with fmt's text TOLD by the authors' own Lean function (tested against real Go, not proved from fmt's source: count such statements apart). THE CARD IS WHAT COUNTS. Prove the row's statement (the work); the ties are given (YtipkgjbfannniaaDoorTie.lean); close each card by the builder's one call (the guide's Derived/Test/ToyasCard.lean, 'card_holds'). Laid BY PROGRAM, IN A SANDBOX (cutbox-door.mjs). By AI agents, Wed Nov 11 2026. No macro, syntax, notation, axiom, sorry.
-/
import Derived.Test.YtipkgjbfannniaaDoorRows
import GoSem.ClaimSeven
namespace Go.Proofs.YtipkgjbfannniaaDoor
namespace Rows

/-- THE TIED CARD OF 'plenumlaw05.CivilDates'. -/
def civilDatesCard : Claim7 := { stood := { row := civilDatesRow, standIns := [], harness := (true, "9b142f7f5fa68e61d350826e2d9ac492b756168d0199e8b142ebd740838a7eaf"), looks := false }, kinds := [], alts := [], laidByText := true, laidKinds := [.data], laidTests := true, laidLooks := .later }
def CivilDatesCardSaid : Prop := Claim7.holds Tryd.pinned (.plain (OpenSpec.ofChange civilDatesSpec)) civilDatesCard

/-- THE TIED CARD OF 'plenumlaw05.CivilDays'. -/
def civilDaysCard : Claim7 := { stood := { row := civilDaysRow, standIns := [], harness := (true, "9b142f7f5fa68e61d350826e2d9ac492b756168d0199e8b142ebd740838a7eaf"), looks := false }, kinds := [], alts := [], laidByText := true, laidKinds := [.data], laidTests := true, laidLooks := .later }
def CivilDaysCardSaid : Prop := Claim7.holds Tryd.pinned (.plain (OpenSpec.ofChange civilDaysSpec)) civilDaysCard

/-- THE TIED CARD OF 'plenumlaw05.CivilMonths'. -/
def civilMonthsCard : Claim7 := { stood := { row := civilMonthsRow, standIns := [], harness := (true, "9b142f7f5fa68e61d350826e2d9ac492b756168d0199e8b142ebd740838a7eaf"), looks := false }, kinds := [], alts := [], laidByText := true, laidKinds := [.data], laidTests := true, laidLooks := .later }
def CivilMonthsCardSaid : Prop := Claim7.holds Tryd.pinned (.plain (OpenSpec.ofChange civilMonthsSpec)) civilMonthsCard

/-- THE TIED CARD OF 'plenumlaw05.CivilInstants'. -/
def civilInstantsCard : Claim7 := { stood := { row := civilInstantsRow, standIns := [], harness := (true, "9b142f7f5fa68e61d350826e2d9ac492b756168d0199e8b142ebd740838a7eaf"), looks := false }, kinds := [], alts := [], laidByText := true, laidKinds := [.data], laidTests := true, laidLooks := .later }
def CivilInstantsCardSaid : Prop := Claim7.holds Tryd.pinned (.plain (OpenSpec.ofChange civilInstantsSpec)) civilInstantsCard

/-- THE TIED CARD OF 'plenumlaw05.CivilTexts'. -/
def civilTextsCard : Claim7 := { stood := { row := civilTextsRow, standIns := [], harness := (true, "9b142f7f5fa68e61d350826e2d9ac492b756168d0199e8b142ebd740838a7eaf"), looks := false }, kinds := [], alts := [], laidByText := true, laidKinds := [.data], laidTests := true, laidLooks := .later }
def CivilTextsCardSaid : Prop := Claim7.holds Tryd.pinned (.plain (OpenSpec.ofChange civilTextsSpec)) civilTextsCard

/-- THE TIED CARD OF 'plenumlaw05.CivilNext'. -/
def civilNextCard : Claim7 := { stood := { row := civilNextRow, standIns := [], harness := (true, "9b142f7f5fa68e61d350826e2d9ac492b756168d0199e8b142ebd740838a7eaf"), looks := false }, kinds := [], alts := [], laidByText := true, laidKinds := [.data], laidTests := true, laidLooks := .later }
def CivilNextCardSaid : Prop := Claim7.holds Tryd.pinned (.plain (OpenSpec.ofChange civilNextSpec)) civilNextCard

/-- THE TIED CARD OF 'plenumlaw05.CivilWeeks'. -/
def civilWeeksCard : Claim7 := { stood := { row := civilWeeksRow, standIns := [], harness := (true, "9b142f7f5fa68e61d350826e2d9ac492b756168d0199e8b142ebd740838a7eaf"), looks := false }, kinds := [], alts := [], laidByText := true, laidKinds := [.data], laidTests := true, laidLooks := .later }
def CivilWeeksCardSaid : Prop := Claim7.holds Tryd.pinned (.plain (OpenSpec.ofChange civilWeeksSpec)) civilWeeksCard

/-- THE TIED CARD OF 'plenumlaw05.CivilPeriod'. -/
def civilPeriodCard : Claim7 := { stood := { row := civilPeriodRow, standIns := [], harness := (true, "9b142f7f5fa68e61d350826e2d9ac492b756168d0199e8b142ebd740838a7eaf"), looks := false }, kinds := [], alts := [], laidByText := true, laidKinds := [.data], laidTests := true, laidLooks := .later }
def CivilPeriodCardSaid : Prop := Claim7.holds Tryd.pinned (.plain (OpenSpec.ofChange civilPeriodSpec)) civilPeriodCard

/-- THE SECOND FORM's CARD OF 'plenumlaw05.CivilDates'. -/
def civilDatesUptoCard : Claim7 := { stood := { row := civilDatesUptoRow, standIns := [], harness := (true, "9b142f7f5fa68e61d350826e2d9ac492b756168d0199e8b142ebd740838a7eaf"), looks := false }, kinds := [], alts := [], laidByText := true, laidKinds := [.data], laidTests := true, laidLooks := .later }
def CivilDatesUptoCardSaid : Prop := Claim7.holds Tryd.pinned (.plain (OpenSpec.upto civilDatesSpec)) civilDatesUptoCard

/-- THE SECOND FORM's CARD OF 'plenumlaw05.CivilDays'. -/
def civilDaysUptoCard : Claim7 := { stood := { row := civilDaysUptoRow, standIns := [], harness := (true, "9b142f7f5fa68e61d350826e2d9ac492b756168d0199e8b142ebd740838a7eaf"), looks := false }, kinds := [], alts := [], laidByText := true, laidKinds := [.data], laidTests := true, laidLooks := .later }
def CivilDaysUptoCardSaid : Prop := Claim7.holds Tryd.pinned (.plain (OpenSpec.upto civilDaysSpec)) civilDaysUptoCard

/-- THE SECOND FORM's CARD OF 'plenumlaw05.CivilMonths'. -/
def civilMonthsUptoCard : Claim7 := { stood := { row := civilMonthsUptoRow, standIns := [], harness := (true, "9b142f7f5fa68e61d350826e2d9ac492b756168d0199e8b142ebd740838a7eaf"), looks := false }, kinds := [], alts := [], laidByText := true, laidKinds := [.data], laidTests := true, laidLooks := .later }
def CivilMonthsUptoCardSaid : Prop := Claim7.holds Tryd.pinned (.plain (OpenSpec.upto civilMonthsSpec)) civilMonthsUptoCard

/-- THE SECOND FORM's CARD OF 'plenumlaw05.CivilInstants'. -/
def civilInstantsUptoCard : Claim7 := { stood := { row := civilInstantsUptoRow, standIns := [], harness := (true, "9b142f7f5fa68e61d350826e2d9ac492b756168d0199e8b142ebd740838a7eaf"), looks := false }, kinds := [], alts := [], laidByText := true, laidKinds := [.data], laidTests := true, laidLooks := .later }
def CivilInstantsUptoCardSaid : Prop := Claim7.holds Tryd.pinned (.plain (OpenSpec.upto civilInstantsSpec)) civilInstantsUptoCard

/-- THE SECOND FORM's CARD OF 'plenumlaw05.CivilTexts'. -/
def civilTextsUptoCard : Claim7 := { stood := { row := civilTextsUptoRow, standIns := [], harness := (true, "9b142f7f5fa68e61d350826e2d9ac492b756168d0199e8b142ebd740838a7eaf"), looks := false }, kinds := [], alts := [], laidByText := true, laidKinds := [.data], laidTests := true, laidLooks := .later }
def CivilTextsUptoCardSaid : Prop := Claim7.holds Tryd.pinned (.plain (OpenSpec.upto civilTextsSpec)) civilTextsUptoCard

/-- THE SECOND FORM's CARD OF 'plenumlaw05.CivilNext'. -/
def civilNextUptoCard : Claim7 := { stood := { row := civilNextUptoRow, standIns := [], harness := (true, "9b142f7f5fa68e61d350826e2d9ac492b756168d0199e8b142ebd740838a7eaf"), looks := false }, kinds := [], alts := [], laidByText := true, laidKinds := [.data], laidTests := true, laidLooks := .later }
def CivilNextUptoCardSaid : Prop := Claim7.holds Tryd.pinned (.plain (OpenSpec.upto civilNextSpec)) civilNextUptoCard

/-- THE SECOND FORM's CARD OF 'plenumlaw05.CivilWeeks'. -/
def civilWeeksUptoCard : Claim7 := { stood := { row := civilWeeksUptoRow, standIns := [], harness := (true, "9b142f7f5fa68e61d350826e2d9ac492b756168d0199e8b142ebd740838a7eaf"), looks := false }, kinds := [], alts := [], laidByText := true, laidKinds := [.data], laidTests := true, laidLooks := .later }
def CivilWeeksUptoCardSaid : Prop := Claim7.holds Tryd.pinned (.plain (OpenSpec.upto civilWeeksSpec)) civilWeeksUptoCard

/-- THE SECOND FORM's CARD OF 'plenumlaw05.CivilPeriod'. -/
def civilPeriodUptoCard : Claim7 := { stood := { row := civilPeriodUptoRow, standIns := [], harness := (true, "9b142f7f5fa68e61d350826e2d9ac492b756168d0199e8b142ebd740838a7eaf"), looks := false }, kinds := [], alts := [], laidByText := true, laidKinds := [.data], laidTests := true, laidLooks := .later }
def CivilPeriodUptoCardSaid : Prop := Claim7.holds Tryd.pinned (.plain (OpenSpec.upto civilPeriodSpec)) civilPeriodUptoCard
end Rows
end Go.Proofs.YtipkgjbfannniaaDoor
