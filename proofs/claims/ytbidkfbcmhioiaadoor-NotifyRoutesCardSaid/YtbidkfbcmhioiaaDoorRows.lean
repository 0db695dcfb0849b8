/-
  NARROWER THAN 'FOR EVERY INPUT', by the rows' own cells (each row's printed sentence says how): NotifyChecks: laid · NotifyTells: laid · NotifyGaps: laid · NotifySilent: laid · NotifyLeft: laid · NotifyOnce: laid · NotifyLoads: loops, laid · NotifyBack: laid · NotifyRoutes: laid.
  DERIVED. THE GIVEN ROWS OF THIS SEAT. 9 by the template 'for every input the law returns true; each argument reads behind the call as it read before'; 0 by the template 'total and deterministic' (their statements: YtbidkfbcmhioiaaDoorTotals.lean).
  GIVEN WITH THE SEED: the statements are not yours to turn. If you find one false, say at which input.
  Laid BY PROGRAM, IN A SANDBOX (cutbox-rows.mjs): the forced cells as the released guide's own fill.sh prints them over the translation 16485f3bd8a94e10… (all of the seat's roots in one cut). By AI agents, Wed Nov 11 2026. No macro, syntax, notation, axiom, sorry.
-/
import Derived.Test.YtbidkfbcmhioiaaDoorChecked
import GoSem.Claim
import GoSem.ClaimJoined
import GoSem.ClaimMapViews
import Derived.JoinedTies
import Derived.KernelRfl
namespace Go.Proofs.YtbidkfbcmhioiaaDoor
/- THE CELL 'sum', in the pinned program and in every row, IS THE sha256 OF THE DUMP (.gsa) THAT YtbidkfbcmhioiaaDoorProg.lean LOADS. Nothing in Lean hashes anything: it is a label: what it is worth is what the hold of that sum in a sandbox is worth. -/
noncomputable def Tryd.pinned : Pinned := { name := "ytbidkfbcmhioiaadoor", sum := "16485f3bd8a94e1094697941770bd4d7d5663efc1e2bf539602fc2856ace9faa", checked := Tryd.checked }
namespace Rows
def none {H : Type} : Left H := { results := [], args := [] }

/- WHAT THE LISTED PACKAGE-LEVEL VARIABLES READ AS WHEN THE CALL BEGINS. Each datum BY PROGRAM (the guide's laid-datum.mjs) off the statement by which the dump's own 'gosem.cut.vars' lays the variable. In a bare row this is a premise. The card (YtbidkfbcmhioiaaDoorCards.lean) ties it to the program's text. -/
def laid_plenum_notify_days {H : Type} : DataW H := .slice [.lit (.string [109, 111, 110]), .lit (.string [116, 117, 101]), .lit (.string [119, 101, 100]), .lit (.string [116, 104, 117]), .lit (.string [102, 114, 105]), .lit (.string [115, 97, 116]), .lit (.string [115, 117, 110])] []
def laid_plenum_notify_kinds {H : Type} : DataW H := .slice [.lit (.string [97, 108, 97, 114, 109]), .lit (.string [102, 97, 117, 108, 116]), .lit (.string [110, 111, 114, 109, 97, 108])] []

/-- 'plenumlaw39.NotifyChecks': WHATEVER THE INPUT: true; the input reads as it did. -/
def notifyChecksSpec : ChangeSpec := { name := "notifyChecks", fn := fun _ => fun
  | [d] => { results := [.lit (.bool true)], args := [d] }
  | _ => none }
def notifyChecksRow : OpenClaim := { program := "ytbidkfbcmhioiaadoor", sum := "16485f3bd8a94e1094697941770bd4d7d5663efc1e2bf539602fc2856ace9faa", func := "plenum/plenumlaw39.NotifyChecks", spec := "notifyChecks", unfollowed := true, recurses := true, named := ["plenum/notify.kinds", "plenum/notify.days"], apart := false, laid := [("plenum/notify.days", laid_plenum_notify_days), ("plenum/notify.kinds", laid_plenum_notify_kinds)] }
def NotifyChecksSaid : Prop := notifyChecksRow.holds Tryd.pinned (OpenSpec.ofChange notifyChecksSpec)

/-- ITS FALSE NEIGHBOUR: 'it returns false'. Refute it at one input. -/
def notifyChecksWrong : ChangeSpec := { name := "notifyChecks", fn := fun _ => fun
  | [d] => { results := [.lit (.bool false)], args := [d] }
  | _ => none }
def NotifyChecksWrongFalsely : Prop := notifyChecksRow.holds Tryd.pinned (OpenSpec.ofChange notifyChecksWrong)

/-- 'plenumlaw39.NotifyTells': WHATEVER THE INPUT: true; the input reads as it did. -/
def notifyTellsSpec : ChangeSpec := { name := "notifyTells", fn := fun _ => fun
  | [d1, d2] => { results := [.lit (.bool true)], args := [d1, d2] }
  | _ => none }
def notifyTellsRow : OpenClaim := { program := "ytbidkfbcmhioiaadoor", sum := "16485f3bd8a94e1094697941770bd4d7d5663efc1e2bf539602fc2856ace9faa", func := "plenum/plenumlaw39.NotifyTells", spec := "notifyTells", unfollowed := true, recurses := true, named := ["plenum/notify.kinds", "plenum/notify.days"], apart := false, laid := [("plenum/notify.days", laid_plenum_notify_days), ("plenum/notify.kinds", laid_plenum_notify_kinds)] }
def NotifyTellsSaid : Prop := notifyTellsRow.holds Tryd.pinned (OpenSpec.ofChange notifyTellsSpec)

/-- ITS FALSE NEIGHBOUR: 'it returns false'. Refute it at one input. -/
def notifyTellsWrong : ChangeSpec := { name := "notifyTells", fn := fun _ => fun
  | [d1, d2] => { results := [.lit (.bool false)], args := [d1, d2] }
  | _ => none }
def NotifyTellsWrongFalsely : Prop := notifyTellsRow.holds Tryd.pinned (OpenSpec.ofChange notifyTellsWrong)

/-- 'plenumlaw39.NotifyGaps': WHATEVER THE INPUT: true; the input reads as it did. -/
def notifyGapsSpec : ChangeSpec := { name := "notifyGaps", fn := fun _ => fun
  | [d1, d2, d3] => { results := [.lit (.bool true)], args := [d1, d2, d3] }
  | _ => none }
def notifyGapsRow : OpenClaim := { program := "ytbidkfbcmhioiaadoor", sum := "16485f3bd8a94e1094697941770bd4d7d5663efc1e2bf539602fc2856ace9faa", func := "plenum/plenumlaw39.NotifyGaps", spec := "notifyGaps", unfollowed := true, recurses := true, named := ["plenum/notify.kinds", "plenum/notify.days"], apart := false, laid := [("plenum/notify.days", laid_plenum_notify_days), ("plenum/notify.kinds", laid_plenum_notify_kinds)] }
def NotifyGapsSaid : Prop := notifyGapsRow.holds Tryd.pinned (OpenSpec.ofChange notifyGapsSpec)

/-- ITS FALSE NEIGHBOUR: 'it returns false'. Refute it at one input. -/
def notifyGapsWrong : ChangeSpec := { name := "notifyGaps", fn := fun _ => fun
  | [d1, d2, d3] => { results := [.lit (.bool false)], args := [d1, d2, d3] }
  | _ => none }
def NotifyGapsWrongFalsely : Prop := notifyGapsRow.holds Tryd.pinned (OpenSpec.ofChange notifyGapsWrong)

/-- 'plenumlaw39.NotifySilent': WHATEVER THE INPUT: true; the input reads as it did. -/
def notifySilentSpec : ChangeSpec := { name := "notifySilent", fn := fun _ => fun
  | [d1, d2, d3] => { results := [.lit (.bool true)], args := [d1, d2, d3] }
  | _ => none }
def notifySilentRow : OpenClaim := { program := "ytbidkfbcmhioiaadoor", sum := "16485f3bd8a94e1094697941770bd4d7d5663efc1e2bf539602fc2856ace9faa", func := "plenum/plenumlaw39.NotifySilent", spec := "notifySilent", unfollowed := true, recurses := true, named := ["plenum/notify.kinds", "plenum/notify.days"], apart := false, laid := [("plenum/notify.days", laid_plenum_notify_days), ("plenum/notify.kinds", laid_plenum_notify_kinds)] }
def NotifySilentSaid : Prop := notifySilentRow.holds Tryd.pinned (OpenSpec.ofChange notifySilentSpec)

/-- ITS FALSE NEIGHBOUR: 'it returns false'. Refute it at one input. -/
def notifySilentWrong : ChangeSpec := { name := "notifySilent", fn := fun _ => fun
  | [d1, d2, d3] => { results := [.lit (.bool false)], args := [d1, d2, d3] }
  | _ => none }
def NotifySilentWrongFalsely : Prop := notifySilentRow.holds Tryd.pinned (OpenSpec.ofChange notifySilentWrong)

/-- 'plenumlaw39.NotifyLeft': WHATEVER THE INPUT: true; the input reads as it did. -/
def notifyLeftSpec : ChangeSpec := { name := "notifyLeft", fn := fun _ => fun
  | [d1, d2, d3, d4] => { results := [.lit (.bool true)], args := [d1, d2, d3, d4] }
  | _ => none }
def notifyLeftRow : OpenClaim := { program := "ytbidkfbcmhioiaadoor", sum := "16485f3bd8a94e1094697941770bd4d7d5663efc1e2bf539602fc2856ace9faa", func := "plenum/plenumlaw39.NotifyLeft", spec := "notifyLeft", unfollowed := true, recurses := true, named := ["plenum/notify.kinds", "plenum/notify.days"], apart := false, laid := [("plenum/notify.days", laid_plenum_notify_days), ("plenum/notify.kinds", laid_plenum_notify_kinds)] }
def NotifyLeftSaid : Prop := notifyLeftRow.holds Tryd.pinned (OpenSpec.ofChange notifyLeftSpec)

/-- ITS FALSE NEIGHBOUR: 'it returns false'. Refute it at one input. -/
def notifyLeftWrong : ChangeSpec := { name := "notifyLeft", fn := fun _ => fun
  | [d1, d2, d3, d4] => { results := [.lit (.bool false)], args := [d1, d2, d3, d4] }
  | _ => none }
def NotifyLeftWrongFalsely : Prop := notifyLeftRow.holds Tryd.pinned (OpenSpec.ofChange notifyLeftWrong)

/-- 'plenumlaw39.NotifyOnce': WHATEVER THE INPUT: true; the input reads as it did. -/
def notifyOnceSpec : ChangeSpec := { name := "notifyOnce", fn := fun _ => fun
  | [d1, d2, d3] => { results := [.lit (.bool true)], args := [d1, d2, d3] }
  | _ => none }
def notifyOnceRow : OpenClaim := { program := "ytbidkfbcmhioiaadoor", sum := "16485f3bd8a94e1094697941770bd4d7d5663efc1e2bf539602fc2856ace9faa", func := "plenum/plenumlaw39.NotifyOnce", spec := "notifyOnce", unfollowed := true, recurses := true, named := ["plenum/notify.kinds", "plenum/notify.days"], apart := false, laid := [("plenum/notify.days", laid_plenum_notify_days), ("plenum/notify.kinds", laid_plenum_notify_kinds)] }
def NotifyOnceSaid : Prop := notifyOnceRow.holds Tryd.pinned (OpenSpec.ofChange notifyOnceSpec)

/-- ITS FALSE NEIGHBOUR: 'it returns false'. Refute it at one input. -/
def notifyOnceWrong : ChangeSpec := { name := "notifyOnce", fn := fun _ => fun
  | [d1, d2, d3] => { results := [.lit (.bool false)], args := [d1, d2, d3] }
  | _ => none }
def NotifyOnceWrongFalsely : Prop := notifyOnceRow.holds Tryd.pinned (OpenSpec.ofChange notifyOnceWrong)

/-- 'plenumlaw39.NotifyLoads': WHATEVER THE INPUT: true; the input reads as it did. -/
def notifyLoadsSpec : ChangeSpec := { name := "notifyLoads", fn := fun _ => fun
  | [d] => { results := [.lit (.bool true)], args := [d] }
  | _ => none }
def notifyLoadsRow : OpenClaim := { program := "ytbidkfbcmhioiaadoor", sum := "16485f3bd8a94e1094697941770bd4d7d5663efc1e2bf539602fc2856ace9faa", func := "plenum/plenumlaw39.NotifyLoads", spec := "notifyLoads", unfollowed := true, recurses := true, named := ["plenum/notify.kinds", "plenum/notify.days"], loops := true, apart := false, laid := [("plenum/notify.days", laid_plenum_notify_days), ("plenum/notify.kinds", laid_plenum_notify_kinds)] }
def NotifyLoadsSaid : Prop := notifyLoadsRow.holds Tryd.pinned (OpenSpec.ofChange notifyLoadsSpec)

/-- ITS FALSE NEIGHBOUR: 'it returns false'. Refute it at one input. -/
def notifyLoadsWrong : ChangeSpec := { name := "notifyLoads", fn := fun _ => fun
  | [d] => { results := [.lit (.bool false)], args := [d] }
  | _ => none }
def NotifyLoadsWrongFalsely : Prop := notifyLoadsRow.holds Tryd.pinned (OpenSpec.ofChange notifyLoadsWrong)

/-- 'plenumlaw39.NotifyBack': WHATEVER THE INPUT: true; the input reads as it did. -/
def notifyBackSpec : ChangeSpec := { name := "notifyBack", fn := fun _ => fun
  | [d] => { results := [.lit (.bool true)], args := [d] }
  | _ => none }
def notifyBackRow : OpenClaim := { program := "ytbidkfbcmhioiaadoor", sum := "16485f3bd8a94e1094697941770bd4d7d5663efc1e2bf539602fc2856ace9faa", func := "plenum/plenumlaw39.NotifyBack", spec := "notifyBack", unfollowed := true, recurses := true, named := ["plenum/notify.kinds", "plenum/notify.days"], apart := false, laid := [("plenum/notify.days", laid_plenum_notify_days), ("plenum/notify.kinds", laid_plenum_notify_kinds)] }
def NotifyBackSaid : Prop := notifyBackRow.holds Tryd.pinned (OpenSpec.ofChange notifyBackSpec)

/-- ITS FALSE NEIGHBOUR: 'it returns false'. Refute it at one input. -/
def notifyBackWrong : ChangeSpec := { name := "notifyBack", fn := fun _ => fun
  | [d] => { results := [.lit (.bool false)], args := [d] }
  | _ => none }
def NotifyBackWrongFalsely : Prop := notifyBackRow.holds Tryd.pinned (OpenSpec.ofChange notifyBackWrong)

/-- 'plenumlaw39.NotifyRoutes': WHATEVER THE INPUT: true; the input reads as it did. -/
def notifyRoutesSpec : ChangeSpec := { name := "notifyRoutes", fn := fun _ => fun
  | [d1, d2, d3] => { results := [.lit (.bool true)], args := [d1, d2, d3] }
  | _ => none }
def notifyRoutesRow : OpenClaim := { program := "ytbidkfbcmhioiaadoor", sum := "16485f3bd8a94e1094697941770bd4d7d5663efc1e2bf539602fc2856ace9faa", func := "plenum/plenumlaw39.NotifyRoutes", spec := "notifyRoutes", unfollowed := true, recurses := true, named := ["plenum/notify.kinds", "plenum/notify.days"], apart := false, laid := [("plenum/notify.days", laid_plenum_notify_days), ("plenum/notify.kinds", laid_plenum_notify_kinds)] }
def NotifyRoutesSaid : Prop := notifyRoutesRow.holds Tryd.pinned (OpenSpec.ofChange notifyRoutesSpec)

/-- ITS FALSE NEIGHBOUR: 'it returns false'. Refute it at one input. -/
def notifyRoutesWrong : ChangeSpec := { name := "notifyRoutes", fn := fun _ => fun
  | [d1, d2, d3] => { results := [.lit (.bool false)], args := [d1, d2, d3] }
  | _ => none }
def NotifyRoutesWrongFalsely : Prop := notifyRoutesRow.holds Tryd.pinned (OpenSpec.ofChange notifyRoutesWrong)

/- THE SECOND FORM. 'bulk': how many values and letters a reading holds, each counted each time it is reached (what is shared counts as often as it is met; a slice's spare places count too). A statement '..UptoSaid' is the law's where the arguments, and the package variables that the reading takes, are together of bulk at most 1048576: NARROWER than '..Said'. Prove '..Said' where nothing that the law and all that it calls make is longer than what came in: it says more and counts as full. Else prove '..UptoSaid'. A law counts once. -/
mutual
def uptoBulk {H : Type} : DataW H → Nat
  | .lit (.string bytes) => bytes.length + 1
  | .lit _ => 1
  | .nil => 1
  | .ptr d => uptoBulk d + 1
  | .slice elems spare => uptoBulkAll elems + uptoBulkAll spare + 1
  | .agg parts => uptoBulkAll parts + 1
  | .iface _ d => uptoBulk d + 1
  | .map entries => uptoBulkEntries entries + 1
  | .held _ => 1
def uptoBulkAll {H : Type} : List (DataW H) → Nat
  | [] => 0
  | d :: r => uptoBulk d + uptoBulkAll r
def uptoBulkEntries {H : Type} : List (Lit × DataW H) → Nat
  | [] => 0
  | x :: r => uptoBulkEntry x + uptoBulkEntries r
def uptoBulkEntry {H : Type} : Lit × DataW H → Nat
  | (.string bytes, d) => bytes.length + uptoBulk d + 1
  | (_, d) => uptoBulk d + 1
 end
def uptoSmall : (H : Type) → List (DataW H) → Bool := fun _ ds => decide (uptoBulkAll ds ≤ 1048576)
def OpenSpec.upto (s : _root_.Go.ChangeSpec) : _root_.Go.OpenSpec := { _root_.Go.OpenSpec.ofChange s with cond := some uptoSmall }

/-- 'plenumlaw39.NotifyChecks', WHERE WHAT IT READS IS OF BULK AT MOST 1048576: true; the input reads as it did. -/
def notifyChecksUptoRow : OpenClaim := { program := "ytbidkfbcmhioiaadoor", sum := "16485f3bd8a94e1094697941770bd4d7d5663efc1e2bf539602fc2856ace9faa", func := "plenum/plenumlaw39.NotifyChecks", spec := "notifyChecks", unfollowed := true, recurses := true, named := ["plenum/notify.kinds", "plenum/notify.days"], apart := false, laid := [("plenum/notify.days", laid_plenum_notify_days), ("plenum/notify.kinds", laid_plenum_notify_kinds)], narrowed := true }
def NotifyChecksUptoSaid : Prop := notifyChecksUptoRow.holds Tryd.pinned (OpenSpec.upto notifyChecksSpec)

/-- 'plenumlaw39.NotifyTells', WHERE WHAT IT READS IS OF BULK AT MOST 1048576: true; the input reads as it did. -/
def notifyTellsUptoRow : OpenClaim := { program := "ytbidkfbcmhioiaadoor", sum := "16485f3bd8a94e1094697941770bd4d7d5663efc1e2bf539602fc2856ace9faa", func := "plenum/plenumlaw39.NotifyTells", spec := "notifyTells", unfollowed := true, recurses := true, named := ["plenum/notify.kinds", "plenum/notify.days"], apart := false, laid := [("plenum/notify.days", laid_plenum_notify_days), ("plenum/notify.kinds", laid_plenum_notify_kinds)], narrowed := true }
def NotifyTellsUptoSaid : Prop := notifyTellsUptoRow.holds Tryd.pinned (OpenSpec.upto notifyTellsSpec)

/-- 'plenumlaw39.NotifyGaps', WHERE WHAT IT READS IS OF BULK AT MOST 1048576: true; the input reads as it did. -/
def notifyGapsUptoRow : OpenClaim := { program := "ytbidkfbcmhioiaadoor", sum := "16485f3bd8a94e1094697941770bd4d7d5663efc1e2bf539602fc2856ace9faa", func := "plenum/plenumlaw39.NotifyGaps", spec := "notifyGaps", unfollowed := true, recurses := true, named := ["plenum/notify.kinds", "plenum/notify.days"], apart := false, laid := [("plenum/notify.days", laid_plenum_notify_days), ("plenum/notify.kinds", laid_plenum_notify_kinds)], narrowed := true }
def NotifyGapsUptoSaid : Prop := notifyGapsUptoRow.holds Tryd.pinned (OpenSpec.upto notifyGapsSpec)

/-- 'plenumlaw39.NotifySilent', WHERE WHAT IT READS IS OF BULK AT MOST 1048576: true; the input reads as it did. -/
def notifySilentUptoRow : OpenClaim := { program := "ytbidkfbcmhioiaadoor", sum := "16485f3bd8a94e1094697941770bd4d7d5663efc1e2bf539602fc2856ace9faa", func := "plenum/plenumlaw39.NotifySilent", spec := "notifySilent", unfollowed := true, recurses := true, named := ["plenum/notify.kinds", "plenum/notify.days"], apart := false, laid := [("plenum/notify.days", laid_plenum_notify_days), ("plenum/notify.kinds", laid_plenum_notify_kinds)], narrowed := true }
def NotifySilentUptoSaid : Prop := notifySilentUptoRow.holds Tryd.pinned (OpenSpec.upto notifySilentSpec)

/-- 'plenumlaw39.NotifyLeft', WHERE WHAT IT READS IS OF BULK AT MOST 1048576: true; the input reads as it did. -/
def notifyLeftUptoRow : OpenClaim := { program := "ytbidkfbcmhioiaadoor", sum := "16485f3bd8a94e1094697941770bd4d7d5663efc1e2bf539602fc2856ace9faa", func := "plenum/plenumlaw39.NotifyLeft", spec := "notifyLeft", unfollowed := true, recurses := true, named := ["plenum/notify.kinds", "plenum/notify.days"], apart := false, laid := [("plenum/notify.days", laid_plenum_notify_days), ("plenum/notify.kinds", laid_plenum_notify_kinds)], narrowed := true }
def NotifyLeftUptoSaid : Prop := notifyLeftUptoRow.holds Tryd.pinned (OpenSpec.upto notifyLeftSpec)

/-- 'plenumlaw39.NotifyOnce', WHERE WHAT IT READS IS OF BULK AT MOST 1048576: true; the input reads as it did. -/
def notifyOnceUptoRow : OpenClaim := { program := "ytbidkfbcmhioiaadoor", sum := "16485f3bd8a94e1094697941770bd4d7d5663efc1e2bf539602fc2856ace9faa", func := "plenum/plenumlaw39.NotifyOnce", spec := "notifyOnce", unfollowed := true, recurses := true, named := ["plenum/notify.kinds", "plenum/notify.days"], apart := false, laid := [("plenum/notify.days", laid_plenum_notify_days), ("plenum/notify.kinds", laid_plenum_notify_kinds)], narrowed := true }
def NotifyOnceUptoSaid : Prop := notifyOnceUptoRow.holds Tryd.pinned (OpenSpec.upto notifyOnceSpec)

/-- 'plenumlaw39.NotifyLoads', WHERE WHAT IT READS IS OF BULK AT MOST 1048576: true; the input reads as it did. -/
def notifyLoadsUptoRow : OpenClaim := { program := "ytbidkfbcmhioiaadoor", sum := "16485f3bd8a94e1094697941770bd4d7d5663efc1e2bf539602fc2856ace9faa", func := "plenum/plenumlaw39.NotifyLoads", spec := "notifyLoads", unfollowed := true, recurses := true, named := ["plenum/notify.kinds", "plenum/notify.days"], loops := true, apart := false, laid := [("plenum/notify.days", laid_plenum_notify_days), ("plenum/notify.kinds", laid_plenum_notify_kinds)], narrowed := true }
def NotifyLoadsUptoSaid : Prop := notifyLoadsUptoRow.holds Tryd.pinned (OpenSpec.upto notifyLoadsSpec)

/-- 'plenumlaw39.NotifyBack', WHERE WHAT IT READS IS OF BULK AT MOST 1048576: true; the input reads as it did. -/
def notifyBackUptoRow : OpenClaim := { program := "ytbidkfbcmhioiaadoor", sum := "16485f3bd8a94e1094697941770bd4d7d5663efc1e2bf539602fc2856ace9faa", func := "plenum/plenumlaw39.NotifyBack", spec := "notifyBack", unfollowed := true, recurses := true, named := ["plenum/notify.kinds", "plenum/notify.days"], apart := false, laid := [("plenum/notify.days", laid_plenum_notify_days), ("plenum/notify.kinds", laid_plenum_notify_kinds)], narrowed := true }
def NotifyBackUptoSaid : Prop := notifyBackUptoRow.holds Tryd.pinned (OpenSpec.upto notifyBackSpec)

/-- 'plenumlaw39.NotifyRoutes', WHERE WHAT IT READS IS OF BULK AT MOST 1048576: true; the input reads as it did. -/
def notifyRoutesUptoRow : OpenClaim := { program := "ytbidkfbcmhioiaadoor", sum := "16485f3bd8a94e1094697941770bd4d7d5663efc1e2bf539602fc2856ace9faa", func := "plenum/plenumlaw39.NotifyRoutes", spec := "notifyRoutes", unfollowed := true, recurses := true, named := ["plenum/notify.kinds", "plenum/notify.days"], apart := false, laid := [("plenum/notify.days", laid_plenum_notify_days), ("plenum/notify.kinds", laid_plenum_notify_kinds)], narrowed := true }
def NotifyRoutesUptoSaid : Prop := notifyRoutesUptoRow.holds Tryd.pinned (OpenSpec.upto notifyRoutesSpec)

end Rows
end Go.Proofs.YtbidkfbcmhioiaaDoor
