/-
  DERIVED. GIVEN WITH THE SEED: THE CARDS: each row of YtbidkfbcmhioiaaDoorRows.lean that lists a variable, with what it lists TIED to the program's text (the seventh form; the later family's looks); each row that meets fmt, with fmt's text TOLD by the authors' own Lean function (tested against real Go, not proved from fmt's source: count such statements apart). THE CARD IS WHAT COUNTS. Prove the row's statement (the work); the ties are given (YtbidkfbcmhioiaaDoorTie.lean); close each card by the builder's one call (the guide's Derived/Test/ToyasCard.lean, 'card_holds'). Laid BY PROGRAM, IN A SANDBOX (cutbox-door.mjs). By AI agents, Wed Nov 11 2026. No macro, syntax, notation, axiom, sorry.
-/
import Derived.Test.YtbidkfbcmhioiaaDoorRows
import GoSem.ClaimSeven
namespace Go.Proofs.YtbidkfbcmhioiaaDoor
namespace Rows

/-- THE TIED CARD OF 'plenumlaw39.NotifyChecks'. -/
def notifyChecksCard : Claim7 := { stood := { row := notifyChecksRow, standIns := [], harness := (true, "fb2af922b064a5c19b378919d66d942f6b5648a157a6cea855787ffe2a932d49"), looks := false }, kinds := [], alts := [], laidByText := true, laidKinds := [.widerDeep, .widerDeep], laidTests := true, laidLooks := .later }
def NotifyChecksCardSaid : Prop := Claim7.holds Tryd.pinned (.plain (OpenSpec.ofChange notifyChecksSpec)) notifyChecksCard

/-- THE TIED CARD OF 'plenumlaw39.NotifyTells'. -/
def notifyTellsCard : Claim7 := { stood := { row := notifyTellsRow, standIns := [], harness := (true, "fb2af922b064a5c19b378919d66d942f6b5648a157a6cea855787ffe2a932d49"), looks := false }, kinds := [], alts := [], laidByText := true, laidKinds := [.widerDeep, .widerDeep], laidTests := true, laidLooks := .later }
def NotifyTellsCardSaid : Prop := Claim7.holds Tryd.pinned (.plain (OpenSpec.ofChange notifyTellsSpec)) notifyTellsCard

/-- THE TIED CARD OF 'plenumlaw39.NotifyGaps'. -/
def notifyGapsCard : Claim7 := { stood := { row := notifyGapsRow, standIns := [], harness := (true, "fb2af922b064a5c19b378919d66d942f6b5648a157a6cea855787ffe2a932d49"), looks := false }, kinds := [], alts := [], laidByText := true, laidKinds := [.widerDeep, .widerDeep], laidTests := true, laidLooks := .later }
def NotifyGapsCardSaid : Prop := Claim7.holds Tryd.pinned (.plain (OpenSpec.ofChange notifyGapsSpec)) notifyGapsCard

/-- THE TIED CARD OF 'plenumlaw39.NotifySilent'. -/
def notifySilentCard : Claim7 := { stood := { row := notifySilentRow, standIns := [], harness := (true, "fb2af922b064a5c19b378919d66d942f6b5648a157a6cea855787ffe2a932d49"), looks := false }, kinds := [], alts := [], laidByText := true, laidKinds := [.widerDeep, .widerDeep], laidTests := true, laidLooks := .later }
def NotifySilentCardSaid : Prop := Claim7.holds Tryd.pinned (.plain (OpenSpec.ofChange notifySilentSpec)) notifySilentCard

/-- THE TIED CARD OF 'plenumlaw39.NotifyLeft'. -/
def notifyLeftCard : Claim7 := { stood := { row := notifyLeftRow, standIns := [], harness := (true, "fb2af922b064a5c19b378919d66d942f6b5648a157a6cea855787ffe2a932d49"), looks := false }, kinds := [], alts := [], laidByText := true, laidKinds := [.widerDeep, .widerDeep], laidTests := true, laidLooks := .later }
def NotifyLeftCardSaid : Prop := Claim7.holds Tryd.pinned (.plain (OpenSpec.ofChange notifyLeftSpec)) notifyLeftCard

/-- THE TIED CARD OF 'plenumlaw39.NotifyOnce'. -/
def notifyOnceCard : Claim7 := { stood := { row := notifyOnceRow, standIns := [], harness := (true, "fb2af922b064a5c19b378919d66d942f6b5648a157a6cea855787ffe2a932d49"), looks := false }, kinds := [], alts := [], laidByText := true, laidKinds := [.widerDeep, .widerDeep], laidTests := true, laidLooks := .later }
def NotifyOnceCardSaid : Prop := Claim7.holds Tryd.pinned (.plain (OpenSpec.ofChange notifyOnceSpec)) notifyOnceCard

/-- THE TIED CARD OF 'plenumlaw39.NotifyLoads'. -/
def notifyLoadsCard : Claim7 := { stood := { row := notifyLoadsRow, standIns := [], harness := (true, "fb2af922b064a5c19b378919d66d942f6b5648a157a6cea855787ffe2a932d49"), looks := false }, kinds := [], alts := [], laidByText := true, laidKinds := [.widerDeep, .widerDeep], laidTests := true, laidLooks := .later }
def NotifyLoadsCardSaid : Prop := Claim7.holds Tryd.pinned (.plain (OpenSpec.ofChange notifyLoadsSpec)) notifyLoadsCard

/-- THE TIED CARD OF 'plenumlaw39.NotifyBack'. -/
def notifyBackCard : Claim7 := { stood := { row := notifyBackRow, standIns := [], harness := (true, "fb2af922b064a5c19b378919d66d942f6b5648a157a6cea855787ffe2a932d49"), looks := false }, kinds := [], alts := [], laidByText := true, laidKinds := [.widerDeep, .widerDeep], laidTests := true, laidLooks := .later }
def NotifyBackCardSaid : Prop := Claim7.holds Tryd.pinned (.plain (OpenSpec.ofChange notifyBackSpec)) notifyBackCard

/-- THE TIED CARD OF 'plenumlaw39.NotifyRoutes'. -/
def notifyRoutesCard : Claim7 := { stood := { row := notifyRoutesRow, standIns := [], harness := (true, "fb2af922b064a5c19b378919d66d942f6b5648a157a6cea855787ffe2a932d49"), looks := false }, kinds := [], alts := [], laidByText := true, laidKinds := [.widerDeep, .widerDeep], laidTests := true, laidLooks := .later }
def NotifyRoutesCardSaid : Prop := Claim7.holds Tryd.pinned (.plain (OpenSpec.ofChange notifyRoutesSpec)) notifyRoutesCard

/-- THE SECOND FORM's CARD OF 'plenumlaw39.NotifyChecks'. -/
def notifyChecksUptoCard : Claim7 := { stood := { row := notifyChecksUptoRow, standIns := [], harness := (true, "fb2af922b064a5c19b378919d66d942f6b5648a157a6cea855787ffe2a932d49"), looks := false }, kinds := [], alts := [], laidByText := true, laidKinds := [.widerDeep, .widerDeep], laidTests := true, laidLooks := .later }
def NotifyChecksUptoCardSaid : Prop := Claim7.holds Tryd.pinned (.plain (OpenSpec.upto notifyChecksSpec)) notifyChecksUptoCard

/-- THE SECOND FORM's CARD OF 'plenumlaw39.NotifyTells'. -/
def notifyTellsUptoCard : Claim7 := { stood := { row := notifyTellsUptoRow, standIns := [], harness := (true, "fb2af922b064a5c19b378919d66d942f6b5648a157a6cea855787ffe2a932d49"), looks := false }, kinds := [], alts := [], laidByText := true, laidKinds := [.widerDeep, .widerDeep], laidTests := true, laidLooks := .later }
def NotifyTellsUptoCardSaid : Prop := Claim7.holds Tryd.pinned (.plain (OpenSpec.upto notifyTellsSpec)) notifyTellsUptoCard

/-- THE SECOND FORM's CARD OF 'plenumlaw39.NotifyGaps'. -/
def notifyGapsUptoCard : Claim7 := { stood := { row := notifyGapsUptoRow, standIns := [], harness := (true, "fb2af922b064a5c19b378919d66d942f6b5648a157a6cea855787ffe2a932d49"), looks := false }, kinds := [], alts := [], laidByText := true, laidKinds := [.widerDeep, .widerDeep], laidTests := true, laidLooks := .later }
def NotifyGapsUptoCardSaid : Prop := Claim7.holds Tryd.pinned (.plain (OpenSpec.upto notifyGapsSpec)) notifyGapsUptoCard

/-- THE SECOND FORM's CARD OF 'plenumlaw39.NotifySilent'. -/
def notifySilentUptoCard : Claim7 := { stood := { row := notifySilentUptoRow, standIns := [], harness := (true, "fb2af922b064a5c19b378919d66d942f6b5648a157a6cea855787ffe2a932d49"), looks := false }, kinds := [], alts := [], laidByText := true, laidKinds := [.widerDeep, .widerDeep], laidTests := true, laidLooks := .later }
def NotifySilentUptoCardSaid : Prop := Claim7.holds Tryd.pinned (.plain (OpenSpec.upto notifySilentSpec)) notifySilentUptoCard

/-- THE SECOND FORM's CARD OF 'plenumlaw39.NotifyLeft'. -/
def notifyLeftUptoCard : Claim7 := { stood := { row := notifyLeftUptoRow, standIns := [], harness := (true, "fb2af922b064a5c19b378919d66d942f6b5648a157a6cea855787ffe2a932d49"), looks := false }, kinds := [], alts := [], laidByText := true, laidKinds := [.widerDeep, .widerDeep], laidTests := true, laidLooks := .later }
def NotifyLeftUptoCardSaid : Prop := Claim7.holds Tryd.pinned (.plain (OpenSpec.upto notifyLeftSpec)) notifyLeftUptoCard

/-- THE SECOND FORM's CARD OF 'plenumlaw39.NotifyOnce'. -/
def notifyOnceUptoCard : Claim7 := { stood := { row := notifyOnceUptoRow, standIns := [], harness := (true, "fb2af922b064a5c19b378919d66d942f6b5648a157a6cea855787ffe2a932d49"), looks := false }, kinds := [], alts := [], laidByText := true, laidKinds := [.widerDeep, .widerDeep], laidTests := true, laidLooks := .later }
def NotifyOnceUptoCardSaid : Prop := Claim7.holds Tryd.pinned (.plain (OpenSpec.upto notifyOnceSpec)) notifyOnceUptoCard

/-- THE SECOND FORM's CARD OF 'plenumlaw39.NotifyLoads'. -/
def notifyLoadsUptoCard : Claim7 := { stood := { row := notifyLoadsUptoRow, standIns := [], harness := (true, "fb2af922b064a5c19b378919d66d942f6b5648a157a6cea855787ffe2a932d49"), looks := false }, kinds := [], alts := [], laidByText := true, laidKinds := [.widerDeep, .widerDeep], laidTests := true, laidLooks := .later }
def NotifyLoadsUptoCardSaid : Prop := Claim7.holds Tryd.pinned (.plain (OpenSpec.upto notifyLoadsSpec)) notifyLoadsUptoCard

/-- THE SECOND FORM's CARD OF 'plenumlaw39.NotifyBack'. -/
def notifyBackUptoCard : Claim7 := { stood := { row := notifyBackUptoRow, standIns := [], harness := (true, "fb2af922b064a5c19b378919d66d942f6b5648a157a6cea855787ffe2a932d49"), looks := false }, kinds := [], alts := [], laidByText := true, laidKinds := [.widerDeep, .widerDeep], laidTests := true, laidLooks := .later }
def NotifyBackUptoCardSaid : Prop := Claim7.holds Tryd.pinned (.plain (OpenSpec.upto notifyBackSpec)) notifyBackUptoCard

/-- THE SECOND FORM's CARD OF 'plenumlaw39.NotifyRoutes'. -/
def notifyRoutesUptoCard : Claim7 := { stood := { row := notifyRoutesUptoRow, standIns := [], harness := (true, "fb2af922b064a5c19b378919d66d942f6b5648a157a6cea855787ffe2a932d49"), looks := false }, kinds := [], alts := [], laidByText := true, laidKinds := [.widerDeep, .widerDeep], laidTests := true, laidLooks := .later }
def NotifyRoutesUptoCardSaid : Prop := Claim7.holds Tryd.pinned (.plain (OpenSpec.upto notifyRoutesSpec)) notifyRoutesUptoCard
end Rows
end Go.Proofs.YtbidkfbcmhioiaaDoor
