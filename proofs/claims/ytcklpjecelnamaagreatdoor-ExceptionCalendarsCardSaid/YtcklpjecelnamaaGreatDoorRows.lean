/-
  NARROWER THAN 'FOR EVERY INPUT', by the rows' own cells (each row's printed sentence says how): ExceptionCalendars: laid · ExceptionChecks: laid · ExceptionGoverns: laid · ExceptionHolds: laid.
  DERIVED. THE GIVEN ROWS OF THIS SEAT. 4 by the template 'for every input the law returns true; each argument reads behind the call as it read before'; 0 by the template 'total and deterministic' (their statements: YtcklpjecelnamaaGreatDoorTotals.lean).
  GIVEN WITH THE SEED: the statements are not yours to turn. If you find one false, say at which input.
  Laid BY PROGRAM, IN A SANDBOX (cutbox-rows.mjs): the forced cells as the released guide's own fill.sh prints them over the translation d63461c0b659eaa4… (all of the seat's roots in one cut). By AI agents, Wed Nov 11 2026. No macro, syntax, notation, axiom, sorry.
-/
import Derived.Test.YtcklpjecelnamaaGreatDoorChecked
import GoSem.Claim
import GoSem.ClaimJoined
import GoSem.ClaimMapViews
import Derived.JoinedTies
import Derived.KernelRfl
namespace Go.Proofs.YtcklpjecelnamaaGreatDoor
/- THE CELL 'sum', in the pinned program and in every row, IS THE sha256 OF THE DUMP (.gsa) THAT YtcklpjecelnamaaGreatDoorProg.lean LOADS. Nothing in Lean hashes anything: it is a label: what it is worth is what the hold of that sum in a sandbox is worth. -/
noncomputable def Tryz.pinned : Pinned := { name := "ytcklpjecelnamaagreatdoor", sum := "d63461c0b659eaa4779d286d53c28068ec3475b8ee8ba996c643e87777a725f3", checked := Tryz.checked }
namespace Rows
def none {H : Type} : Left H := { results := [], args := [] }

/- WHAT THE LISTED PACKAGE-LEVEL VARIABLES READ AS WHEN THE CALL BEGINS. Each datum BY PROGRAM (the guide's laid-datum.mjs) off the statement by which the dump's own 'gosem.cut.vars' lays the variable. In a bare row this is a premise. The card (YtcklpjecelnamaaGreatDoorCards.lean) ties it to the program's text. -/
def laid_plenum_civil_lengths {H : Type} : DataW H := .agg [.lit (.int .i64 0), .lit (.int .i64 31), .lit (.int .i64 28), .lit (.int .i64 31), .lit (.int .i64 30), .lit (.int .i64 31), .lit (.int .i64 30), .lit (.int .i64 31), .lit (.int .i64 31), .lit (.int .i64 30), .lit (.int .i64 31), .lit (.int .i64 30), .lit (.int .i64 31)]

/-- 'plenumlaw32.ExceptionCalendars': WHATEVER THE INPUT: true; the input reads as it did. -/
def exceptionCalendarsSpec : ChangeSpec := { name := "exceptionCalendars", fn := fun _ => fun
  | [d1, d2, d3] => { results := [.lit (.bool true)], args := [d1, d2, d3] }
  | _ => none }
def exceptionCalendarsRow : OpenClaim := { program := "ytcklpjecelnamaagreatdoor", sum := "d63461c0b659eaa4779d286d53c28068ec3475b8ee8ba996c643e87777a725f3", func := "plenum/plenumlaw32.ExceptionCalendars", spec := "exceptionCalendars", unfollowed := true, recurses := true, named := ["plenum/civil.lengths"], apart := false, laid := [("plenum/civil.lengths", laid_plenum_civil_lengths)] }
def ExceptionCalendarsSaid : Prop := exceptionCalendarsRow.holds Tryz.pinned (OpenSpec.ofChange exceptionCalendarsSpec)

/-- ITS FALSE NEIGHBOUR: 'it returns false'. Refute it at one input. -/
def exceptionCalendarsWrong : ChangeSpec := { name := "exceptionCalendars", fn := fun _ => fun
  | [d1, d2, d3] => { results := [.lit (.bool false)], args := [d1, d2, d3] }
  | _ => none }
def ExceptionCalendarsWrongFalsely : Prop := exceptionCalendarsRow.holds Tryz.pinned (OpenSpec.ofChange exceptionCalendarsWrong)

/-- 'plenumlaw32.ExceptionChecks': WHATEVER THE INPUT: true; the input reads as it did. -/
def exceptionChecksSpec : ChangeSpec := { name := "exceptionChecks", fn := fun _ => fun
  | [d1, d2] => { results := [.lit (.bool true)], args := [d1, d2] }
  | _ => none }
def exceptionChecksRow : OpenClaim := { program := "ytcklpjecelnamaagreatdoor", sum := "d63461c0b659eaa4779d286d53c28068ec3475b8ee8ba996c643e87777a725f3", func := "plenum/plenumlaw32.ExceptionChecks", spec := "exceptionChecks", unfollowed := true, recurses := true, named := ["plenum/civil.lengths"], apart := false, laid := [("plenum/civil.lengths", laid_plenum_civil_lengths)] }
def ExceptionChecksSaid : Prop := exceptionChecksRow.holds Tryz.pinned (OpenSpec.ofChange exceptionChecksSpec)

/-- ITS FALSE NEIGHBOUR: 'it returns false'. Refute it at one input. -/
def exceptionChecksWrong : ChangeSpec := { name := "exceptionChecks", fn := fun _ => fun
  | [d1, d2] => { results := [.lit (.bool false)], args := [d1, d2] }
  | _ => none }
def ExceptionChecksWrongFalsely : Prop := exceptionChecksRow.holds Tryz.pinned (OpenSpec.ofChange exceptionChecksWrong)

/-- 'plenumlaw32.ExceptionGoverns': WHATEVER THE INPUT: true; the input reads as it did. -/
def exceptionGovernsSpec : ChangeSpec := { name := "exceptionGoverns", fn := fun _ => fun
  | [d1, d2, d3, d4] => { results := [.lit (.bool true)], args := [d1, d2, d3, d4] }
  | _ => none }
def exceptionGovernsRow : OpenClaim := { program := "ytcklpjecelnamaagreatdoor", sum := "d63461c0b659eaa4779d286d53c28068ec3475b8ee8ba996c643e87777a725f3", func := "plenum/plenumlaw32.ExceptionGoverns", spec := "exceptionGoverns", unfollowed := true, recurses := true, named := ["plenum/civil.lengths"], apart := false, laid := [("plenum/civil.lengths", laid_plenum_civil_lengths)] }
def ExceptionGovernsSaid : Prop := exceptionGovernsRow.holds Tryz.pinned (OpenSpec.ofChange exceptionGovernsSpec)

/-- ITS FALSE NEIGHBOUR: 'it returns false'. Refute it at one input. -/
def exceptionGovernsWrong : ChangeSpec := { name := "exceptionGoverns", fn := fun _ => fun
  | [d1, d2, d3, d4] => { results := [.lit (.bool false)], args := [d1, d2, d3, d4] }
  | _ => none }
def ExceptionGovernsWrongFalsely : Prop := exceptionGovernsRow.holds Tryz.pinned (OpenSpec.ofChange exceptionGovernsWrong)

/-- 'plenumlaw32.ExceptionHolds': WHATEVER THE INPUT: true; the input reads as it did. -/
def exceptionHoldsSpec : ChangeSpec := { name := "exceptionHolds", fn := fun _ => fun
  | [d1, d2, d3] => { results := [.lit (.bool true)], args := [d1, d2, d3] }
  | _ => none }
def exceptionHoldsRow : OpenClaim := { program := "ytcklpjecelnamaagreatdoor", sum := "d63461c0b659eaa4779d286d53c28068ec3475b8ee8ba996c643e87777a725f3", func := "plenum/plenumlaw32.ExceptionHolds", spec := "exceptionHolds", unfollowed := true, recurses := true, named := ["plenum/civil.lengths"], apart := false, laid := [("plenum/civil.lengths", laid_plenum_civil_lengths)] }
def ExceptionHoldsSaid : Prop := exceptionHoldsRow.holds Tryz.pinned (OpenSpec.ofChange exceptionHoldsSpec)

/-- ITS FALSE NEIGHBOUR: 'it returns false'. Refute it at one input. -/
def exceptionHoldsWrong : ChangeSpec := { name := "exceptionHolds", fn := fun _ => fun
  | [d1, d2, d3] => { results := [.lit (.bool false)], args := [d1, d2, d3] }
  | _ => none }
def ExceptionHoldsWrongFalsely : Prop := exceptionHoldsRow.holds Tryz.pinned (OpenSpec.ofChange exceptionHoldsWrong)

/- THE SECOND FORM. 'bulk': how many values and letters a reading holds, each counted each time it is reached (what is shared counts as often as it is met; a slice's spare places count too). A statement '..UptoSaid' is the law's where the arguments, and the package variables that the reading takes, are together of bulk at most 1048576: NARROWER than '..Said'. Prove '..Said' where nothing that the law and all that it calls make is longer than what came in: it says more and counts as full. Else prove '..UptoSaid'. A law counts once. -/
mutual
def uptoBulk {H : Type} : DataW H → Nat
  | .lit (.string bytes) => bytes.length + 1
  | .lit _ => 1
  | .nil => 1
  | .ptr d => uptoBulk d + 1
  | .slice elems spare => uptoBulkAll elems + uptoBulkAll spare + 1
  | .agg parts => uptoBulkAll parts + 1
  | .iface _ d => uptoBulk d + 1
  | .map entries => uptoBulkEntries entries + 1
  | .held _ => 1
def uptoBulkAll {H : Type} : List (DataW H) → Nat
  | [] => 0
  | d :: r => uptoBulk d + uptoBulkAll r
def uptoBulkEntries {H : Type} : List (Lit × DataW H) → Nat
  | [] => 0
  | x :: r => uptoBulkEntry x + uptoBulkEntries r
def uptoBulkEntry {H : Type} : Lit × DataW H → Nat
  | (.string bytes, d) => bytes.length + uptoBulk d + 1
  | (_, d) => uptoBulk d + 1
 end
def uptoSmall : (H : Type) → List (DataW H) → Bool := fun _ ds => decide (uptoBulkAll ds ≤ 1048576)
def OpenSpec.upto (s : _root_.Go.ChangeSpec) : _root_.Go.OpenSpec := { _root_.Go.OpenSpec.ofChange s with cond := some uptoSmall }

/-- 'plenumlaw32.ExceptionCalendars', WHERE WHAT IT READS IS OF BULK AT MOST 1048576: true; the input reads as it did. -/
def exceptionCalendarsUptoRow : OpenClaim := { program := "ytcklpjecelnamaagreatdoor", sum := "d63461c0b659eaa4779d286d53c28068ec3475b8ee8ba996c643e87777a725f3", func := "plenum/plenumlaw32.ExceptionCalendars", spec := "exceptionCalendars", unfollowed := true, recurses := true, named := ["plenum/civil.lengths"], apart := false, laid := [("plenum/civil.lengths", laid_plenum_civil_lengths)], narrowed := true }
def ExceptionCalendarsUptoSaid : Prop := exceptionCalendarsUptoRow.holds Tryz.pinned (OpenSpec.upto exceptionCalendarsSpec)

/-- 'plenumlaw32.ExceptionChecks', WHERE WHAT IT READS IS OF BULK AT MOST 1048576: true; the input reads as it did. -/
def exceptionChecksUptoRow : OpenClaim := { program := "ytcklpjecelnamaagreatdoor", sum := "d63461c0b659eaa4779d286d53c28068ec3475b8ee8ba996c643e87777a725f3", func := "plenum/plenumlaw32.ExceptionChecks", spec := "exceptionChecks", unfollowed := true, recurses := true, named := ["plenum/civil.lengths"], apart := false, laid := [("plenum/civil.lengths", laid_plenum_civil_lengths)], narrowed := true }
def ExceptionChecksUptoSaid : Prop := exceptionChecksUptoRow.holds Tryz.pinned (OpenSpec.upto exceptionChecksSpec)

/-- 'plenumlaw32.ExceptionGoverns', WHERE WHAT IT READS IS OF BULK AT MOST 1048576: true; the input reads as it did. -/
def exceptionGovernsUptoRow : OpenClaim := { program := "ytcklpjecelnamaagreatdoor", sum := "d63461c0b659eaa4779d286d53c28068ec3475b8ee8ba996c643e87777a725f3", func := "plenum/plenumlaw32.ExceptionGoverns", spec := "exceptionGoverns", unfollowed := true, recurses := true, named := ["plenum/civil.lengths"], apart := false, laid := [("plenum/civil.lengths", laid_plenum_civil_lengths)], narrowed := true }
def ExceptionGovernsUptoSaid : Prop := exceptionGovernsUptoRow.holds Tryz.pinned (OpenSpec.upto exceptionGovernsSpec)

/-- 'plenumlaw32.ExceptionHolds', WHERE WHAT IT READS IS OF BULK AT MOST 1048576: true; the input reads as it did. -/
def exceptionHoldsUptoRow : OpenClaim := { program := "ytcklpjecelnamaagreatdoor", sum := "d63461c0b659eaa4779d286d53c28068ec3475b8ee8ba996c643e87777a725f3", func := "plenum/plenumlaw32.ExceptionHolds", spec := "exceptionHolds", unfollowed := true, recurses := true, named := ["plenum/civil.lengths"], apart := false, laid := [("plenum/civil.lengths", laid_plenum_civil_lengths)], narrowed := true }
def ExceptionHoldsUptoSaid : Prop := exceptionHoldsUptoRow.holds Tryz.pinned (OpenSpec.upto exceptionHoldsSpec)

end Rows
end Go.Proofs.YtcklpjecelnamaaGreatDoor
