/-
  DERIVED. GIVEN WITH THE SEED: THE CARDS: each row of YtcklpjecelnamaaGreatDoorRows.lean that lists a variable, with what it lists TIED to the program's text (the seventh form; the later family's looks); each row that meets fmt, with fmt's text TOLD by the authors' own Lean function (tested against real Go, not proved from fmt's source: count such statements apart). THE CARD IS WHAT COUNTS. Prove the row's statement (the work); the ties are given (YtcklpjecelnamaaGreatDoorTie.lean); close each card by the builder's one call (the guide's Derived/Test/ToyasCard.lean, 'card_holds'). Laid BY PROGRAM, IN A SANDBOX (cutbox-door.mjs). By AI agents, Wed Nov 11 2026. No macro, syntax, notation, axiom, sorry.
-/
import Derived.Test.YtcklpjecelnamaaGreatDoorRows
import GoSem.ClaimSeven
namespace Go.Proofs.YtcklpjecelnamaaGreatDoor
namespace Rows

/-- THE TIED CARD OF 'plenumlaw32.ExceptionCalendars'. -/
def exceptionCalendarsCard : Claim7 := { stood := { row := exceptionCalendarsRow, standIns := [], harness := (true, "90d22e5e35d76a35207801349349c4b56d741f2622b3c734ad180ba3887f8ad4"), looks := false }, kinds := [], alts := [], laidByText := true, laidKinds := [.data], laidTests := true, laidLooks := .later }
def ExceptionCalendarsCardSaid : Prop := Claim7.holds Tryz.pinned (.plain (OpenSpec.ofChange exceptionCalendarsSpec)) exceptionCalendarsCard

/-- THE TIED CARD OF 'plenumlaw32.ExceptionChecks'. -/
def exceptionChecksCard : Claim7 := { stood := { row := exceptionChecksRow, standIns := [], harness := (true, "90d22e5e35d76a35207801349349c4b56d741f2622b3c734ad180ba3887f8ad4"), looks := false }, kinds := [], alts := [], laidByText := true, laidKinds := [.data], laidTests := true, laidLooks := .later }
def ExceptionChecksCardSaid : Prop := Claim7.holds Tryz.pinned (.plain (OpenSpec.ofChange exceptionChecksSpec)) exceptionChecksCard

/-- THE TIED CARD OF 'plenumlaw32.ExceptionGoverns'. -/
def exceptionGovernsCard : Claim7 := { stood := { row := exceptionGovernsRow, standIns := [], harness := (true, "90d22e5e35d76a35207801349349c4b56d741f2622b3c734ad180ba3887f8ad4"), looks := false }, kinds := [], alts := [], laidByText := true, laidKinds := [.data], laidTests := true, laidLooks := .later }
def ExceptionGovernsCardSaid : Prop := Claim7.holds Tryz.pinned (.plain (OpenSpec.ofChange exceptionGovernsSpec)) exceptionGovernsCard

/-- THE TIED CARD OF 'plenumlaw32.ExceptionHolds'. -/
def exceptionHoldsCard : Claim7 := { stood := { row := exceptionHoldsRow, standIns := [], harness := (true, "90d22e5e35d76a35207801349349c4b56d741f2622b3c734ad180ba3887f8ad4"), looks := false }, kinds := [], alts := [], laidByText := true, laidKinds := [.data], laidTests := true, laidLooks := .later }
def ExceptionHoldsCardSaid : Prop := Claim7.holds Tryz.pinned (.plain (OpenSpec.ofChange exceptionHoldsSpec)) exceptionHoldsCard

/-- THE SECOND FORM's CARD OF 'plenumlaw32.ExceptionCalendars'. -/
def exceptionCalendarsUptoCard : Claim7 := { stood := { row := exceptionCalendarsUptoRow, standIns := [], harness := (true, "90d22e5e35d76a35207801349349c4b56d741f2622b3c734ad180ba3887f8ad4"), looks := false }, kinds := [], alts := [], laidByText := true, laidKinds := [.data], laidTests := true, laidLooks := .later }
def ExceptionCalendarsUptoCardSaid : Prop := Claim7.holds Tryz.pinned (.plain (OpenSpec.upto exceptionCalendarsSpec)) exceptionCalendarsUptoCard

/-- THE SECOND FORM's CARD OF 'plenumlaw32.ExceptionChecks'. -/
def exceptionChecksUptoCard : Claim7 := { stood := { row := exceptionChecksUptoRow, standIns := [], harness := (true, "90d22e5e35d76a35207801349349c4b56d741f2622b3c734ad180ba3887f8ad4"), looks := false }, kinds := [], alts := [], laidByText := true, laidKinds := [.data], laidTests := true, laidLooks := .later }
def ExceptionChecksUptoCardSaid : Prop := Claim7.holds Tryz.pinned (.plain (OpenSpec.upto exceptionChecksSpec)) exceptionChecksUptoCard

/-- THE SECOND FORM's CARD OF 'plenumlaw32.ExceptionGoverns'. -/
def exceptionGovernsUptoCard : Claim7 := { stood := { row := exceptionGovernsUptoRow, standIns := [], harness := (true, "90d22e5e35d76a35207801349349c4b56d741f2622b3c734ad180ba3887f8ad4"), looks := false }, kinds := [], alts := [], laidByText := true, laidKinds := [.data], laidTests := true, laidLooks := .later }
def ExceptionGovernsUptoCardSaid : Prop := Claim7.holds Tryz.pinned (.plain (OpenSpec.upto exceptionGovernsSpec)) exceptionGovernsUptoCard

/-- THE SECOND FORM's CARD OF 'plenumlaw32.ExceptionHolds'. -/
def exceptionHoldsUptoCard : Claim7 := { stood := { row := exceptionHoldsUptoRow, standIns := [], harness := (true, "90d22e5e35d76a35207801349349c4b56d741f2622b3c734ad180ba3887f8ad4"), looks := false }, kinds := [], alts := [], laidByText := true, laidKinds := [.data], laidTests := true, laidLooks := .later }
def ExceptionHoldsUptoCardSaid : Prop := Claim7.holds Tryz.pinned (.plain (OpenSpec.upto exceptionHoldsSpec)) exceptionHoldsUptoCard
end Rows
end Go.Proofs.YtcklpjecelnamaaGreatDoor
