/-
  NARROWER THAN 'FOR EVERY INPUT', by the rows' own cells (each row's printed sentence says how): CivilDates: laid · CivilDays: laid · CivilMonths: laid · CivilInstants: laid · CivilTexts: laid · CivilNext: laid · CivilWeeks: laid · CivilPeriod: laid.
  DERIVED. THE GIVEN ROWS OF THIS SEAT. 8 by the template 'for every input the law returns true; each argument reads behind the call as it read before'; 0 by the template 'total and deterministic' (their statements: YtipkgjbfannniaaDoorTotals.lean).
  GIVEN WITH THE SEED: the statements are not yours to turn. If you find one false, say at which input.
  Laid BY PROGRAM, IN A SANDBOX (cutbox-rows.mjs): the forced cells as the released guide's own fill.sh prints them over the translation 7a658dcfd0bf43d9… (all of the seat's roots in one cut). By AI agents, Wed Nov 11 2026. No macro, syntax, notation, axiom, sorry.
-/
import Derived.Test.YtipkgjbfannniaaDoorChecked
import GoSem.Claim
import GoSem.ClaimJoined
import GoSem.ClaimMapViews
import Derived.JoinedTies
import Derived.KernelRfl
namespace Go.Proofs.YtipkgjbfannniaaDoor
/- THE CELL 'sum', in the pinned program and in every row, IS THE sha256 OF THE DUMP (.gsa) THAT YtipkgjbfannniaaDoorProg.lean LOADS. Nothing in Lean hashes anything: it is a label: what it is worth is what the hold of that sum in a sandbox is worth. -/
noncomputable def Tryd.pinned : Pinned := { name := "ytipkgjbfannniaadoor", sum := "7a658dcfd0bf43d93da88a946169a5421a408f1833e5a64a6f6508ef5e304e05", checked := Tryd.checked }
namespace Rows
def none {H : Type} : Left H := { results := [], args := [] }

/- WHAT THE LISTED PACKAGE-LEVEL VARIABLES READ AS WHEN THE CALL BEGINS. Each datum BY PROGRAM (the guide's laid-datum.mjs) off the statement by which the dump's own 'gosem.cut.vars' lays the variable. In a bare row this is a premise. The card (YtipkgjbfannniaaDoorCards.lean) ties it to the program's text. -/
def laid_plenum_civil_lengths {H : Type} : DataW H := .agg [.lit (.int .i64 0), .lit (.int .i64 31), .lit (.int .i64 28), .lit (.int .i64 31), .lit (.int .i64 30), .lit (.int .i64 31), .lit (.int .i64 30), .lit (.int .i64 31), .lit (.int .i64 31), .lit (.int .i64 30), .lit (.int .i64 31), .lit (.int .i64 30), .lit (.int .i64 31)]

/-- 'plenumlaw05.CivilDates': WHATEVER THE INPUT: true; the input reads as it did. -/
def civilDatesSpec : ChangeSpec := { name := "civilDates", fn := fun _ => fun
  | [d] => { results := [.lit (.bool true)], args := [d] }
  | _ => none }
def civilDatesRow : OpenClaim := { program := "ytipkgjbfannniaadoor", sum := "7a658dcfd0bf43d93da88a946169a5421a408f1833e5a64a6f6508ef5e304e05", func := "plenum/plenumlaw05.CivilDates", spec := "civilDates", named := ["plenum/civil.lengths"], apart := false, laid := [("plenum/civil.lengths", laid_plenum_civil_lengths)] }
def CivilDatesSaid : Prop := civilDatesRow.holds Tryd.pinned (OpenSpec.ofChange civilDatesSpec)

/-- ITS FALSE NEIGHBOUR: 'it returns false'. Refute it at one input. -/
def civilDatesWrong : ChangeSpec := { name := "civilDates", fn := fun _ => fun
  | [d] => { results := [.lit (.bool false)], args := [d] }
  | _ => none }
def CivilDatesWrongFalsely : Prop := civilDatesRow.holds Tryd.pinned (OpenSpec.ofChange civilDatesWrong)

/-- 'plenumlaw05.CivilDays': WHATEVER THE INPUT: true; the input reads as it did. -/
def civilDaysSpec : ChangeSpec := { name := "civilDays", fn := fun _ => fun
  | [d] => { results := [.lit (.bool true)], args := [d] }
  | _ => none }
def civilDaysRow : OpenClaim := { program := "ytipkgjbfannniaadoor", sum := "7a658dcfd0bf43d93da88a946169a5421a408f1833e5a64a6f6508ef5e304e05", func := "plenum/plenumlaw05.CivilDays", spec := "civilDays", named := ["plenum/civil.lengths"], apart := false, laid := [("plenum/civil.lengths", laid_plenum_civil_lengths)] }
def CivilDaysSaid : Prop := civilDaysRow.holds Tryd.pinned (OpenSpec.ofChange civilDaysSpec)

/-- ITS FALSE NEIGHBOUR: 'it returns false'. Refute it at one input. -/
def civilDaysWrong : ChangeSpec := { name := "civilDays", fn := fun _ => fun
  | [d] => { results := [.lit (.bool false)], args := [d] }
  | _ => none }
def CivilDaysWrongFalsely : Prop := civilDaysRow.holds Tryd.pinned (OpenSpec.ofChange civilDaysWrong)

/-- 'plenumlaw05.CivilMonths': WHATEVER THE INPUT: true; the input reads as it did. -/
def civilMonthsSpec : ChangeSpec := { name := "civilMonths", fn := fun _ => fun
  | [d1, d2] => { results := [.lit (.bool true)], args := [d1, d2] }
  | _ => none }
def civilMonthsRow : OpenClaim := { program := "ytipkgjbfannniaadoor", sum := "7a658dcfd0bf43d93da88a946169a5421a408f1833e5a64a6f6508ef5e304e05", func := "plenum/plenumlaw05.CivilMonths", spec := "civilMonths", named := ["plenum/civil.lengths"], apart := false, laid := [("plenum/civil.lengths", laid_plenum_civil_lengths)] }
def CivilMonthsSaid : Prop := civilMonthsRow.holds Tryd.pinned (OpenSpec.ofChange civilMonthsSpec)

/-- ITS FALSE NEIGHBOUR: 'it returns false'. Refute it at one input. -/
def civilMonthsWrong : ChangeSpec := { name := "civilMonths", fn := fun _ => fun
  | [d1, d2] => { results := [.lit (.bool false)], args := [d1, d2] }
  | _ => none }
def CivilMonthsWrongFalsely : Prop := civilMonthsRow.holds Tryd.pinned (OpenSpec.ofChange civilMonthsWrong)

/-- 'plenumlaw05.CivilInstants': WHATEVER THE INPUT: true; the input reads as it did. -/
def civilInstantsSpec : ChangeSpec := { name := "civilInstants", fn := fun _ => fun
  | [d1, d2, d3] => { results := [.lit (.bool true)], args := [d1, d2, d3] }
  | _ => none }
def civilInstantsRow : OpenClaim := { program := "ytipkgjbfannniaadoor", sum := "7a658dcfd0bf43d93da88a946169a5421a408f1833e5a64a6f6508ef5e304e05", func := "plenum/plenumlaw05.CivilInstants", spec := "civilInstants", named := ["plenum/civil.lengths"], apart := false, laid := [("plenum/civil.lengths", laid_plenum_civil_lengths)] }
def CivilInstantsSaid : Prop := civilInstantsRow.holds Tryd.pinned (OpenSpec.ofChange civilInstantsSpec)

/-- ITS FALSE NEIGHBOUR: 'it returns false'. Refute it at one input. -/
def civilInstantsWrong : ChangeSpec := { name := "civilInstants", fn := fun _ => fun
  | [d1, d2, d3] => { results := [.lit (.bool false)], args := [d1, d2, d3] }
  | _ => none }
def CivilInstantsWrongFalsely : Prop := civilInstantsRow.holds Tryd.pinned (OpenSpec.ofChange civilInstantsWrong)

/-- 'plenumlaw05.CivilTexts': WHATEVER THE INPUT: true; the input reads as it did. -/
def civilTextsSpec : ChangeSpec := { name := "civilTexts", fn := fun _ => fun
  | [d1, d2] => { results := [.lit (.bool true)], args := [d1, d2] }
  | _ => none }
def civilTextsRow : OpenClaim := { program := "ytipkgjbfannniaadoor", sum := "7a658dcfd0bf43d93da88a946169a5421a408f1833e5a64a6f6508ef5e304e05", func := "plenum/plenumlaw05.CivilTexts", spec := "civilTexts", named := ["plenum/civil.lengths"], apart := false, laid := [("plenum/civil.lengths", laid_plenum_civil_lengths)] }
def CivilTextsSaid : Prop := civilTextsRow.holds Tryd.pinned (OpenSpec.ofChange civilTextsSpec)

/-- ITS FALSE NEIGHBOUR: 'it returns false'. Refute it at one input. -/
def civilTextsWrong : ChangeSpec := { name := "civilTexts", fn := fun _ => fun
  | [d1, d2] => { results := [.lit (.bool false)], args := [d1, d2] }
  | _ => none }
def CivilTextsWrongFalsely : Prop := civilTextsRow.holds Tryd.pinned (OpenSpec.ofChange civilTextsWrong)

/-- 'plenumlaw05.CivilNext': WHATEVER THE INPUT: true; the input reads as it did. -/
def civilNextSpec : ChangeSpec := { name := "civilNext", fn := fun _ => fun
  | [d] => { results := [.lit (.bool true)], args := [d] }
  | _ => none }
def civilNextRow : OpenClaim := { program := "ytipkgjbfannniaadoor", sum := "7a658dcfd0bf43d93da88a946169a5421a408f1833e5a64a6f6508ef5e304e05", func := "plenum/plenumlaw05.CivilNext", spec := "civilNext", named := ["plenum/civil.lengths"], apart := false, laid := [("plenum/civil.lengths", laid_plenum_civil_lengths)] }
def CivilNextSaid : Prop := civilNextRow.holds Tryd.pinned (OpenSpec.ofChange civilNextSpec)

/-- ITS FALSE NEIGHBOUR: 'it returns false'. Refute it at one input. -/
def civilNextWrong : ChangeSpec := { name := "civilNext", fn := fun _ => fun
  | [d] => { results := [.lit (.bool false)], args := [d] }
  | _ => none }
def CivilNextWrongFalsely : Prop := civilNextRow.holds Tryd.pinned (OpenSpec.ofChange civilNextWrong)

/-- 'plenumlaw05.CivilWeeks': WHATEVER THE INPUT: true; the input reads as it did. -/
def civilWeeksSpec : ChangeSpec := { name := "civilWeeks", fn := fun _ => fun
  | [d] => { results := [.lit (.bool true)], args := [d] }
  | _ => none }
def civilWeeksRow : OpenClaim := { program := "ytipkgjbfannniaadoor", sum := "7a658dcfd0bf43d93da88a946169a5421a408f1833e5a64a6f6508ef5e304e05", func := "plenum/plenumlaw05.CivilWeeks", spec := "civilWeeks", named := ["plenum/civil.lengths"], apart := false, laid := [("plenum/civil.lengths", laid_plenum_civil_lengths)] }
def CivilWeeksSaid : Prop := civilWeeksRow.holds Tryd.pinned (OpenSpec.ofChange civilWeeksSpec)

/-- ITS FALSE NEIGHBOUR: 'it returns false'. Refute it at one input. -/
def civilWeeksWrong : ChangeSpec := { name := "civilWeeks", fn := fun _ => fun
  | [d] => { results := [.lit (.bool false)], args := [d] }
  | _ => none }
def CivilWeeksWrongFalsely : Prop := civilWeeksRow.holds Tryd.pinned (OpenSpec.ofChange civilWeeksWrong)

/-- 'plenumlaw05.CivilPeriod': WHATEVER THE INPUT: true; the input reads as it did. -/
def civilPeriodSpec : ChangeSpec := { name := "civilPeriod", fn := fun _ => fun
  | [d] => { results := [.lit (.bool true)], args := [d] }
  | _ => none }
def civilPeriodRow : OpenClaim := { program := "ytipkgjbfannniaadoor", sum := "7a658dcfd0bf43d93da88a946169a5421a408f1833e5a64a6f6508ef5e304e05", func := "plenum/plenumlaw05.CivilPeriod", spec := "civilPeriod", named := ["plenum/civil.lengths"], apart := false, laid := [("plenum/civil.lengths", laid_plenum_civil_lengths)] }
def CivilPeriodSaid : Prop := civilPeriodRow.holds Tryd.pinned (OpenSpec.ofChange civilPeriodSpec)

/-- ITS FALSE NEIGHBOUR: 'it returns false'. Refute it at one input. -/
def civilPeriodWrong : ChangeSpec := { name := "civilPeriod", fn := fun _ => fun
  | [d] => { results := [.lit (.bool false)], args := [d] }
  | _ => none }
def CivilPeriodWrongFalsely : Prop := civilPeriodRow.holds Tryd.pinned (OpenSpec.ofChange civilPeriodWrong)

/- THE SECOND FORM. 'bulk': how many values and letters a reading holds, each counted each time it is reached (what is shared counts as often as it is met; a slice's spare places count too). A statement '..UptoSaid' is the law's where the arguments, and the package variables that the reading takes, are together of bulk at most 1048576: NARROWER than '..Said'. Prove '..Said' where nothing that the law and all that it calls make is longer than what came in: it says more and counts as full. Else prove '..UptoSaid'. A law counts once. -/
mutual
def uptoBulk {H : Type} : DataW H → Nat
  | .lit (.string bytes) => bytes.length + 1
  | .lit _ => 1
  | .nil => 1
  | .ptr d => uptoBulk d + 1
  | .slice elems spare => uptoBulkAll elems + uptoBulkAll spare + 1
  | .agg parts => uptoBulkAll parts + 1
  | .iface _ d => uptoBulk d + 1
  | .map entries => uptoBulkEntries entries + 1
  | .held _ => 1
def uptoBulkAll {H : Type} : List (DataW H) → Nat
  | [] => 0
  | d :: r => uptoBulk d + uptoBulkAll r
def uptoBulkEntries {H : Type} : List (Lit × DataW H) → Nat
  | [] => 0
  | x :: r => uptoBulkEntry x + uptoBulkEntries r
def uptoBulkEntry {H : Type} : Lit × DataW H → Nat
  | (.string bytes, d) => bytes.length + uptoBulk d + 1
  | (_, d) => uptoBulk d + 1
 end
def uptoSmall : (H : Type) → List (DataW H) → Bool := fun _ ds => decide (uptoBulkAll ds ≤ 1048576)
def OpenSpec.upto (s : _root_.Go.ChangeSpec) : _root_.Go.OpenSpec := { _root_.Go.OpenSpec.ofChange s with cond := some uptoSmall }

/-- 'plenumlaw05.CivilDates', WHERE WHAT IT READS IS OF BULK AT MOST 1048576: true; the input reads as it did. -/
def civilDatesUptoRow : OpenClaim := { program := "ytipkgjbfannniaadoor", sum := "7a658dcfd0bf43d93da88a946169a5421a408f1833e5a64a6f6508ef5e304e05", func := "plenum/plenumlaw05.CivilDates", spec := "civilDates", named := ["plenum/civil.lengths"], apart := false, laid := [("plenum/civil.lengths", laid_plenum_civil_lengths)], narrowed := true }
def CivilDatesUptoSaid : Prop := civilDatesUptoRow.holds Tryd.pinned (OpenSpec.upto civilDatesSpec)

/-- 'plenumlaw05.CivilDays', WHERE WHAT IT READS IS OF BULK AT MOST 1048576: true; the input reads as it did. -/
def civilDaysUptoRow : OpenClaim := { program := "ytipkgjbfannniaadoor", sum := "7a658dcfd0bf43d93da88a946169a5421a408f1833e5a64a6f6508ef5e304e05", func := "plenum/plenumlaw05.CivilDays", spec := "civilDays", named := ["plenum/civil.lengths"], apart := false, laid := [("plenum/civil.lengths", laid_plenum_civil_lengths)], narrowed := true }
def CivilDaysUptoSaid : Prop := civilDaysUptoRow.holds Tryd.pinned (OpenSpec.upto civilDaysSpec)

/-- 'plenumlaw05.CivilMonths', WHERE WHAT IT READS IS OF BULK AT MOST 1048576: true; the input reads as it did. -/
def civilMonthsUptoRow : OpenClaim := { program := "ytipkgjbfannniaadoor", sum := "7a658dcfd0bf43d93da88a946169a5421a408f1833e5a64a6f6508ef5e304e05", func := "plenum/plenumlaw05.CivilMonths", spec := "civilMonths", named := ["plenum/civil.lengths"], apart := false, laid := [("plenum/civil.lengths", laid_plenum_civil_lengths)], narrowed := true }
def CivilMonthsUptoSaid : Prop := civilMonthsUptoRow.holds Tryd.pinned (OpenSpec.upto civilMonthsSpec)

/-- 'plenumlaw05.CivilInstants', WHERE WHAT IT READS IS OF BULK AT MOST 1048576: true; the input reads as it did. -/
def civilInstantsUptoRow : OpenClaim := { program := "ytipkgjbfannniaadoor", sum := "7a658dcfd0bf43d93da88a946169a5421a408f1833e5a64a6f6508ef5e304e05", func := "plenum/plenumlaw05.CivilInstants", spec := "civilInstants", named := ["plenum/civil.lengths"], apart := false, laid := [("plenum/civil.lengths", laid_plenum_civil_lengths)], narrowed := true }
def CivilInstantsUptoSaid : Prop := civilInstantsUptoRow.holds Tryd.pinned (OpenSpec.upto civilInstantsSpec)

/-- 'plenumlaw05.CivilTexts', WHERE WHAT IT READS IS OF BULK AT MOST 1048576: true; the input reads as it did. -/
def civilTextsUptoRow : OpenClaim := { program := "ytipkgjbfannniaadoor", sum := "7a658dcfd0bf43d93da88a946169a5421a408f1833e5a64a6f6508ef5e304e05", func := "plenum/plenumlaw05.CivilTexts", spec := "civilTexts", named := ["plenum/civil.lengths"], apart := false, laid := [("plenum/civil.lengths", laid_plenum_civil_lengths)], narrowed := true }
def CivilTextsUptoSaid : Prop := civilTextsUptoRow.holds Tryd.pinned (OpenSpec.upto civilTextsSpec)

/-- 'plenumlaw05.CivilNext', WHERE WHAT IT READS IS OF BULK AT MOST 1048576: true; the input reads as it did. -/
def civilNextUptoRow : OpenClaim := { program := "ytipkgjbfannniaadoor", sum := "7a658dcfd0bf43d93da88a946169a5421a408f1833e5a64a6f6508ef5e304e05", func := "plenum/plenumlaw05.CivilNext", spec := "civilNext", named := ["plenum/civil.lengths"], apart := false, laid := [("plenum/civil.lengths", laid_plenum_civil_lengths)], narrowed := true }
def CivilNextUptoSaid : Prop := civilNextUptoRow.holds Tryd.pinned (OpenSpec.upto civilNextSpec)

/-- 'plenumlaw05.CivilWeeks', WHERE WHAT IT READS IS OF BULK AT MOST 1048576: true; the input reads as it did. -/
def civilWeeksUptoRow : OpenClaim := { program := "ytipkgjbfannniaadoor", sum := "7a658dcfd0bf43d93da88a946169a5421a408f1833e5a64a6f6508ef5e304e05", func := "plenum/plenumlaw05.CivilWeeks", spec := "civilWeeks", named := ["plenum/civil.lengths"], apart := false, laid := [("plenum/civil.lengths", laid_plenum_civil_lengths)], narrowed := true }
def CivilWeeksUptoSaid : Prop := civilWeeksUptoRow.holds Tryd.pinned (OpenSpec.upto civilWeeksSpec)

/-- 'plenumlaw05.CivilPeriod', WHERE WHAT IT READS IS OF BULK AT MOST 1048576: true; the input reads as it did. -/
def civilPeriodUptoRow : OpenClaim := { program := "ytipkgjbfannniaadoor", sum := "7a658dcfd0bf43d93da88a946169a5421a408f1833e5a64a6f6508ef5e304e05", func := "plenum/plenumlaw05.CivilPeriod", spec := "civilPeriod", named := ["plenum/civil.lengths"], apart := false, laid := [("plenum/civil.lengths", laid_plenum_civil_lengths)], narrowed := true }
def CivilPeriodUptoSaid : Prop := civilPeriodUptoRow.holds Tryd.pinned (OpenSpec.upto civilPeriodSpec)

end Rows
end Go.Proofs.YtipkgjbfannniaaDoor
