/-
  No cell of these rows narrows 'for every input' (looked for: loops, veiled, ifaces, maps, wideKeys, modest, calm, conditions, laid).
  DERIVED. THE GIVEN ROWS OF THIS SEAT. 7 by the template 'for every input the law returns true; each argument reads behind the call as it read before'; 0 by the template 'total and deterministic' (their statements: YteclemahimldeaaTotals.lean).
  GIVEN WITH THE SEED: the statements are not yours to turn. If you find one false, say at which input.
  Laid BY PROGRAM, IN A SANDBOX (cutbox-rows.mjs): the forced cells as the released guide's own fill.sh prints them over the translation 9863e7f5e52bdccb… (all of the seat's roots in one cut). By AI agents, Wed Nov 11 2026. No macro, syntax, notation, axiom, sorry.
-/
import Derived.Test.YteclemahimldeaaChecked
import GoSem.Claim
import GoSem.ClaimJoined
import GoSem.ClaimMapViews
import Derived.JoinedTies
import Derived.KernelRfl
namespace Go.Proofs.Yteclemahimldeaa
/- THE CELL 'sum', in the pinned program and in every row, IS THE sha256 OF THE DUMP (.gsa) THAT YteclemahimldeaaProg.lean LOADS. Nothing in Lean hashes anything: it is a label: what it is worth is what the hold of that sum in a sandbox is worth. -/
noncomputable def Try.pinned : Pinned := { name := "yteclemahimldeaa", sum := "9863e7f5e52bdccb44d9ea018e453b9a98ca13889da217b26ca8650a63777bf1", checked := Try.checked }
namespace Rows
def none {H : Type} : Left H := { results := [], args := [] }

/-- 'plenumlaw42.CollectTakes': WHATEVER THE INPUT: true; the input reads as it did. -/
def collectTakesSpec : ChangeSpec := { name := "collectTakes", fn := fun _ => fun
  | [d] => { results := [.lit (.bool true)], args := [d] }
  | _ => none }
def collectTakesRow : OpenClaim := { program := "yteclemahimldeaa", sum := "9863e7f5e52bdccb44d9ea018e453b9a98ca13889da217b26ca8650a63777bf1", func := "plenum/plenumlaw42.CollectTakes", spec := "collectTakes", apart := false }
def CollectTakesSaid : Prop := collectTakesRow.holds Try.pinned (OpenSpec.ofChange collectTakesSpec)

/-- ITS FALSE NEIGHBOUR: 'it returns false'. Refute it at one input. -/
def collectTakesWrong : ChangeSpec := { name := "collectTakes", fn := fun _ => fun
  | [d] => { results := [.lit (.bool false)], args := [d] }
  | _ => none }
def CollectTakesWrongFalsely : Prop := collectTakesRow.holds Try.pinned (OpenSpec.ofChange collectTakesWrong)

/-- 'plenumlaw42.CollectSound': WHATEVER THE INPUT: true; the input reads as it did. -/
def collectSoundSpec : ChangeSpec := { name := "collectSound", fn := fun _ => fun
  | [d] => { results := [.lit (.bool true)], args := [d] }
  | _ => none }
def collectSoundRow : OpenClaim := { program := "yteclemahimldeaa", sum := "9863e7f5e52bdccb44d9ea018e453b9a98ca13889da217b26ca8650a63777bf1", func := "plenum/plenumlaw42.CollectSound", spec := "collectSound", apart := false }
def CollectSoundSaid : Prop := collectSoundRow.holds Try.pinned (OpenSpec.ofChange collectSoundSpec)

/-- ITS FALSE NEIGHBOUR: 'it returns false'. Refute it at one input. -/
def collectSoundWrong : ChangeSpec := { name := "collectSound", fn := fun _ => fun
  | [d] => { results := [.lit (.bool false)], args := [d] }
  | _ => none }
def CollectSoundWrongFalsely : Prop := collectSoundRow.holds Try.pinned (OpenSpec.ofChange collectSoundWrong)

/-- 'plenumlaw42.CollectComplete': WHATEVER THE INPUT: true; the input reads as it did. -/
def collectCompleteSpec : ChangeSpec := { name := "collectComplete", fn := fun _ => fun
  | [d1, d2] => { results := [.lit (.bool true)], args := [d1, d2] }
  | _ => none }
def collectCompleteRow : OpenClaim := { program := "yteclemahimldeaa", sum := "9863e7f5e52bdccb44d9ea018e453b9a98ca13889da217b26ca8650a63777bf1", func := "plenum/plenumlaw42.CollectComplete", spec := "collectComplete", apart := false }
def CollectCompleteSaid : Prop := collectCompleteRow.holds Try.pinned (OpenSpec.ofChange collectCompleteSpec)

/-- ITS FALSE NEIGHBOUR: 'it returns false'. Refute it at one input. -/
def collectCompleteWrong : ChangeSpec := { name := "collectComplete", fn := fun _ => fun
  | [d1, d2] => { results := [.lit (.bool false)], args := [d1, d2] }
  | _ => none }
def CollectCompleteWrongFalsely : Prop := collectCompleteRow.holds Try.pinned (OpenSpec.ofChange collectCompleteWrong)

/-- 'plenumlaw42.CollectValues': WHATEVER THE INPUT: true; the input reads as it did. -/
def collectValuesSpec : ChangeSpec := { name := "collectValues", fn := fun _ => fun
  | [d1, d2, d3] => { results := [.lit (.bool true)], args := [d1, d2, d3] }
  | _ => none }
def collectValuesRow : OpenClaim := { program := "yteclemahimldeaa", sum := "9863e7f5e52bdccb44d9ea018e453b9a98ca13889da217b26ca8650a63777bf1", func := "plenum/plenumlaw42.CollectValues", spec := "collectValues", unfollowed := true, recurses := true, apart := false }
def CollectValuesSaid : Prop := collectValuesRow.holds Try.pinned (OpenSpec.ofChange collectValuesSpec)

/-- ITS FALSE NEIGHBOUR: 'it returns false'. Refute it at one input. -/
def collectValuesWrong : ChangeSpec := { name := "collectValues", fn := fun _ => fun
  | [d1, d2, d3] => { results := [.lit (.bool false)], args := [d1, d2, d3] }
  | _ => none }
def CollectValuesWrongFalsely : Prop := collectValuesRow.holds Try.pinned (OpenSpec.ofChange collectValuesWrong)

/-- 'plenumlaw42.CollectMerges': WHATEVER THE INPUT: true; the input reads as it did. -/
def collectMergesSpec : ChangeSpec := { name := "collectMerges", fn := fun _ => fun
  | [d1, d2] => { results := [.lit (.bool true)], args := [d1, d2] }
  | _ => none }
def collectMergesRow : OpenClaim := { program := "yteclemahimldeaa", sum := "9863e7f5e52bdccb44d9ea018e453b9a98ca13889da217b26ca8650a63777bf1", func := "plenum/plenumlaw42.CollectMerges", spec := "collectMerges", unfollowed := true, recurses := true, apart := false }
def CollectMergesSaid : Prop := collectMergesRow.holds Try.pinned (OpenSpec.ofChange collectMergesSpec)

/-- ITS FALSE NEIGHBOUR: 'it returns false'. Refute it at one input. -/
def collectMergesWrong : ChangeSpec := { name := "collectMerges", fn := fun _ => fun
  | [d1, d2] => { results := [.lit (.bool false)], args := [d1, d2] }
  | _ => none }
def CollectMergesWrongFalsely : Prop := collectMergesRow.holds Try.pinned (OpenSpec.ofChange collectMergesWrong)

/-- 'plenumlaw42.CollectAlgebra': WHATEVER THE INPUT: true; the input reads as it did. -/
def collectAlgebraSpec : ChangeSpec := { name := "collectAlgebra", fn := fun _ => fun
  | [d1, d2, d3] => { results := [.lit (.bool true)], args := [d1, d2, d3] }
  | _ => none }
def collectAlgebraRow : OpenClaim := { program := "yteclemahimldeaa", sum := "9863e7f5e52bdccb44d9ea018e453b9a98ca13889da217b26ca8650a63777bf1", func := "plenum/plenumlaw42.CollectAlgebra", spec := "collectAlgebra", unfollowed := true, recurses := true, apart := false }
def CollectAlgebraSaid : Prop := collectAlgebraRow.holds Try.pinned (OpenSpec.ofChange collectAlgebraSpec)

/-- ITS FALSE NEIGHBOUR: 'it returns false'. Refute it at one input. -/
def collectAlgebraWrong : ChangeSpec := { name := "collectAlgebra", fn := fun _ => fun
  | [d1, d2, d3] => { results := [.lit (.bool false)], args := [d1, d2, d3] }
  | _ => none }
def CollectAlgebraWrongFalsely : Prop := collectAlgebraRow.holds Try.pinned (OpenSpec.ofChange collectAlgebraWrong)

/-- 'plenumlaw42.CollectChecks': WHATEVER THE INPUT: true; the input reads as it did. -/
def collectChecksSpec : ChangeSpec := { name := "collectChecks", fn := fun _ => fun
  | [d] => { results := [.lit (.bool true)], args := [d] }
  | _ => none }
def collectChecksRow : OpenClaim := { program := "yteclemahimldeaa", sum := "9863e7f5e52bdccb44d9ea018e453b9a98ca13889da217b26ca8650a63777bf1", func := "plenum/plenumlaw42.CollectChecks", spec := "collectChecks", unfollowed := true, recurses := true, apart := false }
def CollectChecksSaid : Prop := collectChecksRow.holds Try.pinned (OpenSpec.ofChange collectChecksSpec)

/-- ITS FALSE NEIGHBOUR: 'it returns false'. Refute it at one input. -/
def collectChecksWrong : ChangeSpec := { name := "collectChecks", fn := fun _ => fun
  | [d] => { results := [.lit (.bool false)], args := [d] }
  | _ => none }
def CollectChecksWrongFalsely : Prop := collectChecksRow.holds Try.pinned (OpenSpec.ofChange collectChecksWrong)

/- THE SECOND FORM. 'bulk': how many values and letters a reading holds, each counted each time it is reached (what is shared counts as often as it is met; a slice's spare places count too). A statement '..UptoSaid' is the law's where the arguments, and the package variables that the reading takes, are together of bulk at most 1048576: NARROWER than '..Said'. Prove '..Said' where nothing that the law and all that it calls make is longer than what came in: it says more and counts as full. Else prove '..UptoSaid'. A law counts once. -/
mutual
def uptoBulk {H : Type} : DataW H → Nat
  | .lit (.string bytes) => bytes.length + 1
  | .lit _ => 1
  | .nil => 1
  | .ptr d => uptoBulk d + 1
  | .slice elems spare => uptoBulkAll elems + uptoBulkAll spare + 1
  | .agg parts => uptoBulkAll parts + 1
  | .iface _ d => uptoBulk d + 1
  | .map entries => uptoBulkEntries entries + 1
  | .held _ => 1
def uptoBulkAll {H : Type} : List (DataW H) → Nat
  | [] => 0
  | d :: r => uptoBulk d + uptoBulkAll r
def uptoBulkEntries {H : Type} : List (Lit × DataW H) → Nat
  | [] => 0
  | x :: r => uptoBulkEntry x + uptoBulkEntries r
def uptoBulkEntry {H : Type} : Lit × DataW H → Nat
  | (.string bytes, d) => bytes.length + uptoBulk d + 1
  | (_, d) => uptoBulk d + 1
 end
def uptoSmall : (H : Type) → List (DataW H) → Bool := fun _ ds => decide (uptoBulkAll ds ≤ 1048576)
def OpenSpec.upto (s : _root_.Go.ChangeSpec) : _root_.Go.OpenSpec := { _root_.Go.OpenSpec.ofChange s with cond := some uptoSmall }

/-- 'plenumlaw42.CollectTakes', WHERE WHAT IT READS IS OF BULK AT MOST 1048576: true; the input reads as it did. -/
def collectTakesUptoRow : OpenClaim := { program := "yteclemahimldeaa", sum := "9863e7f5e52bdccb44d9ea018e453b9a98ca13889da217b26ca8650a63777bf1", func := "plenum/plenumlaw42.CollectTakes", spec := "collectTakes", apart := false, narrowed := true }
def CollectTakesUptoSaid : Prop := collectTakesUptoRow.holds Try.pinned (OpenSpec.upto collectTakesSpec)

/-- 'plenumlaw42.CollectSound', WHERE WHAT IT READS IS OF BULK AT MOST 1048576: true; the input reads as it did. -/
def collectSoundUptoRow : OpenClaim := { program := "yteclemahimldeaa", sum := "9863e7f5e52bdccb44d9ea018e453b9a98ca13889da217b26ca8650a63777bf1", func := "plenum/plenumlaw42.CollectSound", spec := "collectSound", apart := false, narrowed := true }
def CollectSoundUptoSaid : Prop := collectSoundUptoRow.holds Try.pinned (OpenSpec.upto collectSoundSpec)

/-- 'plenumlaw42.CollectComplete', WHERE WHAT IT READS IS OF BULK AT MOST 1048576: true; the input reads as it did. -/
def collectCompleteUptoRow : OpenClaim := { program := "yteclemahimldeaa", sum := "9863e7f5e52bdccb44d9ea018e453b9a98ca13889da217b26ca8650a63777bf1", func := "plenum/plenumlaw42.CollectComplete", spec := "collectComplete", apart := false, narrowed := true }
def CollectCompleteUptoSaid : Prop := collectCompleteUptoRow.holds Try.pinned (OpenSpec.upto collectCompleteSpec)

/-- 'plenumlaw42.CollectValues', WHERE WHAT IT READS IS OF BULK AT MOST 1048576: true; the input reads as it did. -/
def collectValuesUptoRow : OpenClaim := { program := "yteclemahimldeaa", sum := "9863e7f5e52bdccb44d9ea018e453b9a98ca13889da217b26ca8650a63777bf1", func := "plenum/plenumlaw42.CollectValues", spec := "collectValues", unfollowed := true, recurses := true, apart := false, narrowed := true }
def CollectValuesUptoSaid : Prop := collectValuesUptoRow.holds Try.pinned (OpenSpec.upto collectValuesSpec)

/-- 'plenumlaw42.CollectMerges', WHERE WHAT IT READS IS OF BULK AT MOST 1048576: true; the input reads as it did. -/
def collectMergesUptoRow : OpenClaim := { program := "yteclemahimldeaa", sum := "9863e7f5e52bdccb44d9ea018e453b9a98ca13889da217b26ca8650a63777bf1", func := "plenum/plenumlaw42.CollectMerges", spec := "collectMerges", unfollowed := true, recurses := true, apart := false, narrowed := true }
def CollectMergesUptoSaid : Prop := collectMergesUptoRow.holds Try.pinned (OpenSpec.upto collectMergesSpec)

/-- 'plenumlaw42.CollectAlgebra', WHERE WHAT IT READS IS OF BULK AT MOST 1048576: true; the input reads as it did. -/
def collectAlgebraUptoRow : OpenClaim := { program := "yteclemahimldeaa", sum := "9863e7f5e52bdccb44d9ea018e453b9a98ca13889da217b26ca8650a63777bf1", func := "plenum/plenumlaw42.CollectAlgebra", spec := "collectAlgebra", unfollowed := true, recurses := true, apart := false, narrowed := true }
def CollectAlgebraUptoSaid : Prop := collectAlgebraUptoRow.holds Try.pinned (OpenSpec.upto collectAlgebraSpec)

/-- 'plenumlaw42.CollectChecks', WHERE WHAT IT READS IS OF BULK AT MOST 1048576: true; the input reads as it did. -/
def collectChecksUptoRow : OpenClaim := { program := "yteclemahimldeaa", sum := "9863e7f5e52bdccb44d9ea018e453b9a98ca13889da217b26ca8650a63777bf1", func := "plenum/plenumlaw42.CollectChecks", spec := "collectChecks", unfollowed := true, recurses := true, apart := false, narrowed := true }
def CollectChecksUptoSaid : Prop := collectChecksUptoRow.holds Try.pinned (OpenSpec.upto collectChecksSpec)

end Rows
end Go.Proofs.Yteclemahimldeaa
