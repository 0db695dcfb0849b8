/-
  NARROWER THAN 'FOR EVERY INPUT', by the rows' own cells (each row's printed sentence says how): ExceptionNext: laid · ExceptionSteps: laid · ExceptionBelow: laid.
  DERIVED. THE GIVEN ROWS OF THIS SEAT. 3 by the template 'for every input the law returns true; each argument reads behind the call as it read before'; 0 by the template 'total and deterministic' (their statements: YtcklpjecelnamaaDoorTotals.lean).
  GIVEN WITH THE SEED: the statements are not yours to turn. If you find one false, say at which input.
  Laid BY PROGRAM, IN A SANDBOX (cutbox-rows.mjs): the forced cells as the released guide's own fill.sh prints them over the translation 35af3f7d6835595d… (all of the seat's roots in one cut). By AI agents, Wed Nov 11 2026. No macro, syntax, notation, axiom, sorry.
-/
import Derived.Test.YtcklpjecelnamaaDoorChecked
import GoSem.Claim
import GoSem.ClaimJoined
import GoSem.ClaimMapViews
import Derived.JoinedTies
import Derived.KernelRfl
namespace Go.Proofs.YtcklpjecelnamaaDoor
/- THE CELL 'sum', in the pinned program and in every row, IS THE sha256 OF THE DUMP (.gsa) THAT YtcklpjecelnamaaDoorProg.lean LOADS. Nothing in Lean hashes anything: it is a label: what it is worth is what the hold of that sum in a sandbox is worth. -/
noncomputable def Tryd.pinned : Pinned := { name := "ytcklpjecelnamaadoor", sum := "35af3f7d6835595d4ade0ddafb9408102e580c05ede21e86454ba677fa72b7ea", checked := Tryd.checked }
namespace Rows
def none {H : Type} : Left H := { results := [], args := [] }

/- WHAT THE LISTED PACKAGE-LEVEL VARIABLES READ AS WHEN THE CALL BEGINS. Each datum BY PROGRAM (the guide's laid-datum.mjs) off the statement by which the dump's own 'gosem.cut.vars' lays the variable. In a bare row this is a premise. The card (YtcklpjecelnamaaDoorCards.lean) ties it to the program's text. -/
def laid_plenum_civil_lengths {H : Type} : DataW H := .agg [.lit (.int .i64 0), .lit (.int .i64 31), .lit (.int .i64 28), .lit (.int .i64 31), .lit (.int .i64 30), .lit (.int .i64 31), .lit (.int .i64 30), .lit (.int .i64 31), .lit (.int .i64 31), .lit (.int .i64 30), .lit (.int .i64 31), .lit (.int .i64 30), .lit (.int .i64 31)]

/-- 'plenumlaw32.ExceptionNext': WHATEVER THE INPUT: true; the input reads as it did. -/
def exceptionNextSpec : ChangeSpec := { name := "exceptionNext", fn := fun _ => fun
  | [d1, d2, d3] => { results := [.lit (.bool true)], args := [d1, d2, d3] }
  | _ => none }
def exceptionNextRow : OpenClaim := { program := "ytcklpjecelnamaadoor", sum := "35af3f7d6835595d4ade0ddafb9408102e580c05ede21e86454ba677fa72b7ea", func := "plenum/plenumlaw32.ExceptionNext", spec := "exceptionNext", unfollowed := true, recurses := true, named := ["plenum/civil.lengths"], apart := false, laid := [("plenum/civil.lengths", laid_plenum_civil_lengths)] }
def ExceptionNextSaid : Prop := exceptionNextRow.holds Tryd.pinned (OpenSpec.ofChange exceptionNextSpec)

/-- ITS FALSE NEIGHBOUR: 'it returns false'. Refute it at one input. -/
def exceptionNextWrong : ChangeSpec := { name := "exceptionNext", fn := fun _ => fun
  | [d1, d2, d3] => { results := [.lit (.bool false)], args := [d1, d2, d3] }
  | _ => none }
def ExceptionNextWrongFalsely : Prop := exceptionNextRow.holds Tryd.pinned (OpenSpec.ofChange exceptionNextWrong)

/-- 'plenumlaw32.ExceptionSteps': WHATEVER THE INPUT: true; the input reads as it did. -/
def exceptionStepsSpec : ChangeSpec := { name := "exceptionSteps", fn := fun _ => fun
  | [d1, d2, d3, d4] => { results := [.lit (.bool true)], args := [d1, d2, d3, d4] }
  | _ => none }
def exceptionStepsRow : OpenClaim := { program := "ytcklpjecelnamaadoor", sum := "35af3f7d6835595d4ade0ddafb9408102e580c05ede21e86454ba677fa72b7ea", func := "plenum/plenumlaw32.ExceptionSteps", spec := "exceptionSteps", unfollowed := true, recurses := true, named := ["plenum/civil.lengths"], apart := false, laid := [("plenum/civil.lengths", laid_plenum_civil_lengths)] }
def ExceptionStepsSaid : Prop := exceptionStepsRow.holds Tryd.pinned (OpenSpec.ofChange exceptionStepsSpec)

/-- ITS FALSE NEIGHBOUR: 'it returns false'. Refute it at one input. -/
def exceptionStepsWrong : ChangeSpec := { name := "exceptionSteps", fn := fun _ => fun
  | [d1, d2, d3, d4] => { results := [.lit (.bool false)], args := [d1, d2, d3, d4] }
  | _ => none }
def ExceptionStepsWrongFalsely : Prop := exceptionStepsRow.holds Tryd.pinned (OpenSpec.ofChange exceptionStepsWrong)

/-- 'plenumlaw32.ExceptionBelow': WHATEVER THE INPUT: true; the input reads as it did. -/
def exceptionBelowSpec : ChangeSpec := { name := "exceptionBelow", fn := fun _ => fun
  | [d1, d2, d3, d4, d5] => { results := [.lit (.bool true)], args := [d1, d2, d3, d4, d5] }
  | _ => none }
def exceptionBelowRow : OpenClaim := { program := "ytcklpjecelnamaadoor", sum := "35af3f7d6835595d4ade0ddafb9408102e580c05ede21e86454ba677fa72b7ea", func := "plenum/plenumlaw32.ExceptionBelow", spec := "exceptionBelow", unfollowed := true, recurses := true, named := ["plenum/civil.lengths"], apart := false, laid := [("plenum/civil.lengths", laid_plenum_civil_lengths)] }
def ExceptionBelowSaid : Prop := exceptionBelowRow.holds Tryd.pinned (OpenSpec.ofChange exceptionBelowSpec)

/-- ITS FALSE NEIGHBOUR: 'it returns false'. Refute it at one input. -/
def exceptionBelowWrong : ChangeSpec := { name := "exceptionBelow", fn := fun _ => fun
  | [d1, d2, d3, d4, d5] => { results := [.lit (.bool false)], args := [d1, d2, d3, d4, d5] }
  | _ => none }
def ExceptionBelowWrongFalsely : Prop := exceptionBelowRow.holds Tryd.pinned (OpenSpec.ofChange exceptionBelowWrong)

/- THE SECOND FORM. 'bulk': how many values and letters a reading holds, each counted each time it is reached (what is shared counts as often as it is met; a slice's spare places count too). A statement '..UptoSaid' is the law's where the arguments, and the package variables that the reading takes, are together of bulk at most 1048576: NARROWER than '..Said'. Prove '..Said' where nothing that the law and all that it calls make is longer than what came in: it says more and counts as full. Else prove '..UptoSaid'. A law counts once. -/
mutual
def uptoBulk {H : Type} : DataW H → Nat
  | .lit (.string bytes) => bytes.length + 1
  | .lit _ => 1
  | .nil => 1
  | .ptr d => uptoBulk d + 1
  | .slice elems spare => uptoBulkAll elems + uptoBulkAll spare + 1
  | .agg parts => uptoBulkAll parts + 1
  | .iface _ d => uptoBulk d + 1
  | .map entries => uptoBulkEntries entries + 1
  | .held _ => 1
def uptoBulkAll {H : Type} : List (DataW H) → Nat
  | [] => 0
  | d :: r => uptoBulk d + uptoBulkAll r
def uptoBulkEntries {H : Type} : List (Lit × DataW H) → Nat
  | [] => 0
  | x :: r => uptoBulkEntry x + uptoBulkEntries r
def uptoBulkEntry {H : Type} : Lit × DataW H → Nat
  | (.string bytes, d) => bytes.length + uptoBulk d + 1
  | (_, d) => uptoBulk d + 1
 end
def uptoSmall : (H : Type) → List (DataW H) → Bool := fun _ ds => decide (uptoBulkAll ds ≤ 1048576)
def OpenSpec.upto (s : _root_.Go.ChangeSpec) : _root_.Go.OpenSpec := { _root_.Go.OpenSpec.ofChange s with cond := some uptoSmall }

/-- 'plenumlaw32.ExceptionNext', WHERE WHAT IT READS IS OF BULK AT MOST 1048576: true; the input reads as it did. -/
def exceptionNextUptoRow : OpenClaim := { program := "ytcklpjecelnamaadoor", sum := "35af3f7d6835595d4ade0ddafb9408102e580c05ede21e86454ba677fa72b7ea", func := "plenum/plenumlaw32.ExceptionNext", spec := "exceptionNext", unfollowed := true, recurses := true, named := ["plenum/civil.lengths"], apart := false, laid := [("plenum/civil.lengths", laid_plenum_civil_lengths)], narrowed := true }
def ExceptionNextUptoSaid : Prop := exceptionNextUptoRow.holds Tryd.pinned (OpenSpec.upto exceptionNextSpec)

/-- 'plenumlaw32.ExceptionSteps', WHERE WHAT IT READS IS OF BULK AT MOST 1048576: true; the input reads as it did. -/
def exceptionStepsUptoRow : OpenClaim := { program := "ytcklpjecelnamaadoor", sum := "35af3f7d6835595d4ade0ddafb9408102e580c05ede21e86454ba677fa72b7ea", func := "plenum/plenumlaw32.ExceptionSteps", spec := "exceptionSteps", unfollowed := true, recurses := true, named := ["plenum/civil.lengths"], apart := false, laid := [("plenum/civil.lengths", laid_plenum_civil_lengths)], narrowed := true }
def ExceptionStepsUptoSaid : Prop := exceptionStepsUptoRow.holds Tryd.pinned (OpenSpec.upto exceptionStepsSpec)

/-- 'plenumlaw32.ExceptionBelow', WHERE WHAT IT READS IS OF BULK AT MOST 1048576: true; the input reads as it did. -/
def exceptionBelowUptoRow : OpenClaim := { program := "ytcklpjecelnamaadoor", sum := "35af3f7d6835595d4ade0ddafb9408102e580c05ede21e86454ba677fa72b7ea", func := "plenum/plenumlaw32.ExceptionBelow", spec := "exceptionBelow", unfollowed := true, recurses := true, named := ["plenum/civil.lengths"], apart := false, laid := [("plenum/civil.lengths", laid_plenum_civil_lengths)], narrowed := true }
def ExceptionBelowUptoSaid : Prop := exceptionBelowUptoRow.holds Tryd.pinned (OpenSpec.upto exceptionBelowSpec)

end Rows
end Go.Proofs.YtcklpjecelnamaaDoor
