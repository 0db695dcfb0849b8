/-
  No cell of these rows narrows 'for every input' (looked for: loops, veiled, ifaces, maps, wideKeys, modest, calm, conditions, laid).
  DERIVED. THE GIVEN ROWS OF THIS SEAT. 5 by the template 'for every input the law returns true; each argument reads behind the call as it read before'; 0 by the template 'total and deterministic' (their statements: YtbecejhjdagkdaaTotals.lean).
  GIVEN WITH THE SEED: the statements are not yours to turn. If you find one false, say at which input.
  Laid BY PROGRAM, IN A SANDBOX (cutbox-rows.mjs): the forced cells as the released guide's own fill.sh prints them over the translation a3ae2e40b44f5553… (all of the seat's roots in one cut). By AI agents, Wed Nov 11 2026. No macro, syntax, notation, axiom, sorry.
-/
import Derived.Test.YtbecejhjdagkdaaChecked
import GoSem.Claim
import GoSem.ClaimJoined
import GoSem.ClaimMapViews
import Derived.JoinedTies
import Derived.KernelRfl
namespace Go.Proofs.Ytbecejhjdagkdaa
/- THE CELL 'sum', in the pinned program and in every row, IS THE sha256 OF THE DUMP (.gsa) THAT YtbecejhjdagkdaaProg.lean LOADS. Nothing in Lean hashes anything: it is a label: what it is worth is what the hold of that sum in a sandbox is worth. -/
noncomputable def Try.pinned : Pinned := { name := "ytbecejhjdagkdaa", sum := "a3ae2e40b44f55532e7e726028122195ac454e000016cd3b825ab163d59af3c0", checked := Try.checked }
namespace Rows
def none {H : Type} : Left H := { results := [], args := [] }

/-- 'plenumlaw55.LeadlagStates': WHATEVER THE INPUT: true; the input reads as it did. -/
def leadlagStatesSpec : ChangeSpec := { name := "leadlagStates", fn := fun _ => fun
  | [d1, d2, d3, d4, d5] => { results := [.lit (.bool true)], args := [d1, d2, d3, d4, d5] }
  | _ => none }
def leadlagStatesRow : OpenClaim := { program := "ytbecejhjdagkdaa", sum := "a3ae2e40b44f55532e7e726028122195ac454e000016cd3b825ab163d59af3c0", func := "plenum/plenumlaw55.LeadlagStates", spec := "leadlagStates", unfollowed := true, recurses := true, apart := false }
def LeadlagStatesSaid : Prop := leadlagStatesRow.holds Try.pinned (OpenSpec.ofChange leadlagStatesSpec)

/-- ITS FALSE NEIGHBOUR: 'it returns false'. Refute it at one input. -/
def leadlagStatesWrong : ChangeSpec := { name := "leadlagStates", fn := fun _ => fun
  | [d1, d2, d3, d4, d5] => { results := [.lit (.bool false)], args := [d1, d2, d3, d4, d5] }
  | _ => none }
def LeadlagStatesWrongFalsely : Prop := leadlagStatesRow.holds Try.pinned (OpenSpec.ofChange leadlagStatesWrong)

/-- 'plenumlaw55.LeadlagPlays': WHATEVER THE INPUT: true; the input reads as it did. -/
def leadlagPlaysSpec : ChangeSpec := { name := "leadlagPlays", fn := fun _ => fun
  | [d1, d2, d3, d4] => { results := [.lit (.bool true)], args := [d1, d2, d3, d4] }
  | _ => none }
def leadlagPlaysRow : OpenClaim := { program := "ytbecejhjdagkdaa", sum := "a3ae2e40b44f55532e7e726028122195ac454e000016cd3b825ab163d59af3c0", func := "plenum/plenumlaw55.LeadlagPlays", spec := "leadlagPlays", unfollowed := true, recurses := true, apart := false }
def LeadlagPlaysSaid : Prop := leadlagPlaysRow.holds Try.pinned (OpenSpec.ofChange leadlagPlaysSpec)

/-- ITS FALSE NEIGHBOUR: 'it returns false'. Refute it at one input. -/
def leadlagPlaysWrong : ChangeSpec := { name := "leadlagPlays", fn := fun _ => fun
  | [d1, d2, d3, d4] => { results := [.lit (.bool false)], args := [d1, d2, d3, d4] }
  | _ => none }
def LeadlagPlaysWrongFalsely : Prop := leadlagPlaysRow.holds Try.pinned (OpenSpec.ofChange leadlagPlaysWrong)

/-- 'plenumlaw55.LeadlagFair': WHATEVER THE INPUT: true; the input reads as it did. -/
def leadlagFairSpec : ChangeSpec := { name := "leadlagFair", fn := fun _ => fun
  | [d1, d2, d3, d4, d5] => { results := [.lit (.bool true)], args := [d1, d2, d3, d4, d5] }
  | _ => none }
def leadlagFairRow : OpenClaim := { program := "ytbecejhjdagkdaa", sum := "a3ae2e40b44f55532e7e726028122195ac454e000016cd3b825ab163d59af3c0", func := "plenum/plenumlaw55.LeadlagFair", spec := "leadlagFair", unfollowed := true, recurses := true, apart := false }
def LeadlagFairSaid : Prop := leadlagFairRow.holds Try.pinned (OpenSpec.ofChange leadlagFairSpec)

/-- ITS FALSE NEIGHBOUR: 'it returns false'. Refute it at one input. -/
def leadlagFairWrong : ChangeSpec := { name := "leadlagFair", fn := fun _ => fun
  | [d1, d2, d3, d4, d5] => { results := [.lit (.bool false)], args := [d1, d2, d3, d4, d5] }
  | _ => none }
def LeadlagFairWrongFalsely : Prop := leadlagFairRow.holds Try.pinned (OpenSpec.ofChange leadlagFairWrong)

/-- 'plenumlaw55.LeadlagSteps': WHATEVER THE INPUT: true; the input reads as it did. -/
def leadlagStepsSpec : ChangeSpec := { name := "leadlagSteps", fn := fun _ => fun
  | [d1, d2, d3, d4, d5] => { results := [.lit (.bool true)], args := [d1, d2, d3, d4, d5] }
  | _ => none }
def leadlagStepsRow : OpenClaim := { program := "ytbecejhjdagkdaa", sum := "a3ae2e40b44f55532e7e726028122195ac454e000016cd3b825ab163d59af3c0", func := "plenum/plenumlaw55.LeadlagSteps", spec := "leadlagSteps", unfollowed := true, recurses := true, apart := false }
def LeadlagStepsSaid : Prop := leadlagStepsRow.holds Try.pinned (OpenSpec.ofChange leadlagStepsSpec)

/-- ITS FALSE NEIGHBOUR: 'it returns false'. Refute it at one input. -/
def leadlagStepsWrong : ChangeSpec := { name := "leadlagSteps", fn := fun _ => fun
  | [d1, d2, d3, d4, d5] => { results := [.lit (.bool false)], args := [d1, d2, d3, d4, d5] }
  | _ => none }
def LeadlagStepsWrongFalsely : Prop := leadlagStepsRow.holds Try.pinned (OpenSpec.ofChange leadlagStepsWrong)

/-- 'plenumlaw55.LeadlagLimits': WHATEVER THE INPUT: true; the input reads as it did. -/
def leadlagLimitsSpec : ChangeSpec := { name := "leadlagLimits", fn := fun _ => fun
  | [d1, d2, d3, d4, d5] => { results := [.lit (.bool true)], args := [d1, d2, d3, d4, d5] }
  | _ => none }
def leadlagLimitsRow : OpenClaim := { program := "ytbecejhjdagkdaa", sum := "a3ae2e40b44f55532e7e726028122195ac454e000016cd3b825ab163d59af3c0", func := "plenum/plenumlaw55.LeadlagLimits", spec := "leadlagLimits", unfollowed := true, recurses := true, apart := false }
def LeadlagLimitsSaid : Prop := leadlagLimitsRow.holds Try.pinned (OpenSpec.ofChange leadlagLimitsSpec)

/-- ITS FALSE NEIGHBOUR: 'it returns false'. Refute it at one input. -/
def leadlagLimitsWrong : ChangeSpec := { name := "leadlagLimits", fn := fun _ => fun
  | [d1, d2, d3, d4, d5] => { results := [.lit (.bool false)], args := [d1, d2, d3, d4, d5] }
  | _ => none }
def LeadlagLimitsWrongFalsely : Prop := leadlagLimitsRow.holds Try.pinned (OpenSpec.ofChange leadlagLimitsWrong)

/- THE SECOND FORM. 'bulk': how many values and letters a reading holds, each counted each time it is reached (what is shared counts as often as it is met; a slice's spare places count too). A statement '..UptoSaid' is the law's where the arguments, and the package variables that the reading takes, are together of bulk at most 1048576: NARROWER than '..Said'. Prove '..Said' where nothing that the law and all that it calls make is longer than what came in: it says more and counts as full. Else prove '..UptoSaid'. A law counts once. -/
mutual
def uptoBulk {H : Type} : DataW H → Nat
  | .lit (.string bytes) => bytes.length + 1
  | .lit _ => 1
  | .nil => 1
  | .ptr d => uptoBulk d + 1
  | .slice elems spare => uptoBulkAll elems + uptoBulkAll spare + 1
  | .agg parts => uptoBulkAll parts + 1
  | .iface _ d => uptoBulk d + 1
  | .map entries => uptoBulkEntries entries + 1
  | .held _ => 1
def uptoBulkAll {H : Type} : List (DataW H) → Nat
  | [] => 0
  | d :: r => uptoBulk d + uptoBulkAll r
def uptoBulkEntries {H : Type} : List (Lit × DataW H) → Nat
  | [] => 0
  | x :: r => uptoBulkEntry x + uptoBulkEntries r
def uptoBulkEntry {H : Type} : Lit × DataW H → Nat
  | (.string bytes, d) => bytes.length + uptoBulk d + 1
  | (_, d) => uptoBulk d + 1
 end
def uptoSmall : (H : Type) → List (DataW H) → Bool := fun _ ds => decide (uptoBulkAll ds ≤ 1048576)
def OpenSpec.upto (s : _root_.Go.ChangeSpec) : _root_.Go.OpenSpec := { _root_.Go.OpenSpec.ofChange s with cond := some uptoSmall }

/-- 'plenumlaw55.LeadlagStates', WHERE WHAT IT READS IS OF BULK AT MOST 1048576: true; the input reads as it did. -/
def leadlagStatesUptoRow : OpenClaim := { program := "ytbecejhjdagkdaa", sum := "a3ae2e40b44f55532e7e726028122195ac454e000016cd3b825ab163d59af3c0", func := "plenum/plenumlaw55.LeadlagStates", spec := "leadlagStates", unfollowed := true, recurses := true, apart := false, narrowed := true }
def LeadlagStatesUptoSaid : Prop := leadlagStatesUptoRow.holds Try.pinned (OpenSpec.upto leadlagStatesSpec)

/-- 'plenumlaw55.LeadlagPlays', WHERE WHAT IT READS IS OF BULK AT MOST 1048576: true; the input reads as it did. -/
def leadlagPlaysUptoRow : OpenClaim := { program := "ytbecejhjdagkdaa", sum := "a3ae2e40b44f55532e7e726028122195ac454e000016cd3b825ab163d59af3c0", func := "plenum/plenumlaw55.LeadlagPlays", spec := "leadlagPlays", unfollowed := true, recurses := true, apart := false, narrowed := true }
def LeadlagPlaysUptoSaid : Prop := leadlagPlaysUptoRow.holds Try.pinned (OpenSpec.upto leadlagPlaysSpec)

/-- 'plenumlaw55.LeadlagFair', WHERE WHAT IT READS IS OF BULK AT MOST 1048576: true; the input reads as it did. -/
def leadlagFairUptoRow : OpenClaim := { program := "ytbecejhjdagkdaa", sum := "a3ae2e40b44f55532e7e726028122195ac454e000016cd3b825ab163d59af3c0", func := "plenum/plenumlaw55.LeadlagFair", spec := "leadlagFair", unfollowed := true, recurses := true, apart := false, narrowed := true }
def LeadlagFairUptoSaid : Prop := leadlagFairUptoRow.holds Try.pinned (OpenSpec.upto leadlagFairSpec)

/-- 'plenumlaw55.LeadlagSteps', WHERE WHAT IT READS IS OF BULK AT MOST 1048576: true; the input reads as it did. -/
def leadlagStepsUptoRow : OpenClaim := { program := "ytbecejhjdagkdaa", sum := "a3ae2e40b44f55532e7e726028122195ac454e000016cd3b825ab163d59af3c0", func := "plenum/plenumlaw55.LeadlagSteps", spec := "leadlagSteps", unfollowed := true, recurses := true, apart := false, narrowed := true }
def LeadlagStepsUptoSaid : Prop := leadlagStepsUptoRow.holds Try.pinned (OpenSpec.upto leadlagStepsSpec)

/-- 'plenumlaw55.LeadlagLimits', WHERE WHAT IT READS IS OF BULK AT MOST 1048576: true; the input reads as it did. -/
def leadlagLimitsUptoRow : OpenClaim := { program := "ytbecejhjdagkdaa", sum := "a3ae2e40b44f55532e7e726028122195ac454e000016cd3b825ab163d59af3c0", func := "plenum/plenumlaw55.LeadlagLimits", spec := "leadlagLimits", unfollowed := true, recurses := true, apart := false, narrowed := true }
def LeadlagLimitsUptoSaid : Prop := leadlagLimitsUptoRow.holds Try.pinned (OpenSpec.upto leadlagLimitsSpec)

end Rows
end Go.Proofs.Ytbecejhjdagkdaa
