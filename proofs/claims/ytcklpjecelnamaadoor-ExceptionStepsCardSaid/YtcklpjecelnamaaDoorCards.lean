/-
  DERIVED. GIVEN WITH THE SEED: THE CARDS: each row of YtcklpjecelnamaaDoorRows.lean that lists a variable, with what it lists TIED to the program's text (the seventh form; the later family's looks); each row that meets fmt, with fmt's text TOLD by the authors' own Lean function (tested against real Go, not proved from fmt's source: count such statements apart). THE CARD IS WHAT COUNTS. Prove the row's statement (the work); the ties are given (YtcklpjecelnamaaDoorTie.lean); close each card by the builder's one call (the guide's Derived/Test/ToyasCard.lean, 'card_holds'). Laid BY PROGRAM, IN A SANDBOX (cutbox-door.mjs). By AI agents, Wed Nov 11 2026. No macro, syntax, notation, axiom, sorry.
-/
import Derived.Test.YtcklpjecelnamaaDoorRows
import GoSem.ClaimSeven
namespace Go.Proofs.YtcklpjecelnamaaDoor
namespace Rows

/-- THE TIED CARD OF 'plenumlaw32.ExceptionNext'. -/
def exceptionNextCard : Claim7 := { stood := { row := exceptionNextRow, standIns := [], harness := (true, "351e4c98a2abc716982bed95fb0e5700311e726924b991411439c65ffa1b4d15"), looks := false }, kinds := [], alts := [], laidByText := true, laidKinds := [.data], laidTests := true, laidLooks := .later }
def ExceptionNextCardSaid : Prop := Claim7.holds Tryd.pinned (.plain (OpenSpec.ofChange exceptionNextSpec)) exceptionNextCard

/-- THE TIED CARD OF 'plenumlaw32.ExceptionSteps'. -/
def exceptionStepsCard : Claim7 := { stood := { row := exceptionStepsRow, standIns := [], harness := (true, "351e4c98a2abc716982bed95fb0e5700311e726924b991411439c65ffa1b4d15"), looks := false }, kinds := [], alts := [], laidByText := true, laidKinds := [.data], laidTests := true, laidLooks := .later }
def ExceptionStepsCardSaid : Prop := Claim7.holds Tryd.pinned (.plain (OpenSpec.ofChange exceptionStepsSpec)) exceptionStepsCard

/-- THE TIED CARD OF 'plenumlaw32.ExceptionBelow'. -/
def exceptionBelowCard : Claim7 := { stood := { row := exceptionBelowRow, standIns := [], harness := (true, "351e4c98a2abc716982bed95fb0e5700311e726924b991411439c65ffa1b4d15"), looks := false }, kinds := [], alts := [], laidByText := true, laidKinds := [.data], laidTests := true, laidLooks := .later }
def ExceptionBelowCardSaid : Prop := Claim7.holds Tryd.pinned (.plain (OpenSpec.ofChange exceptionBelowSpec)) exceptionBelowCard

/-- THE SECOND FORM's CARD OF 'plenumlaw32.ExceptionNext'. -/
def exceptionNextUptoCard : Claim7 := { stood := { row := exceptionNextUptoRow, standIns := [], harness := (true, "351e4c98a2abc716982bed95fb0e5700311e726924b991411439c65ffa1b4d15"), looks := false }, kinds := [], alts := [], laidByText := true, laidKinds := [.data], laidTests := true, laidLooks := .later }
def ExceptionNextUptoCardSaid : Prop := Claim7.holds Tryd.pinned (.plain (OpenSpec.upto exceptionNextSpec)) exceptionNextUptoCard

/-- THE SECOND FORM's CARD OF 'plenumlaw32.ExceptionSteps'. -/
def exceptionStepsUptoCard : Claim7 := { stood := { row := exceptionStepsUptoRow, standIns := [], harness := (true, "351e4c98a2abc716982bed95fb0e5700311e726924b991411439c65ffa1b4d15"), looks := false }, kinds := [], alts := [], laidByText := true, laidKinds := [.data], laidTests := true, laidLooks := .later }
def ExceptionStepsUptoCardSaid : Prop := Claim7.holds Tryd.pinned (.plain (OpenSpec.upto exceptionStepsSpec)) exceptionStepsUptoCard

/-- THE SECOND FORM's CARD OF 'plenumlaw32.ExceptionBelow'. -/
def exceptionBelowUptoCard : Claim7 := { stood := { row := exceptionBelowUptoRow, standIns := [], harness := (true, "351e4c98a2abc716982bed95fb0e5700311e726924b991411439c65ffa1b4d15"), looks := false }, kinds := [], alts := [], laidByText := true, laidKinds := [.data], laidTests := true, laidLooks := .later }
def ExceptionBelowUptoCardSaid : Prop := Claim7.holds Tryd.pinned (.plain (OpenSpec.upto exceptionBelowSpec)) exceptionBelowUptoCard
end Rows
end Go.Proofs.YtcklpjecelnamaaDoor
