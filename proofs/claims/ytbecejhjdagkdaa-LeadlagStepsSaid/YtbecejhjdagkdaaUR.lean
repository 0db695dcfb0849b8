/- Leadlag: arguments as data. -/
import Derived.Test.YtbecejhjdagkdaaEng2
import Derived.Test.YtbecejhjdagkdaaUL
import Derived.Test.YtbecejhjdagkdaaRows
import Derived.KernelRfl
import Derived.FnData
set_option linter.unusedVariables false
set_option linter.unusedSimpArgs false
set_option maxRecDepth 100000
namespace Go.Eng.N
open Go Go.Eng Go.RowKit Go.Proofs Go.Proofs.Ytbecejhjdagkdaa
def okUn (_ : Un) : Prop := True
theorem rdUn : Rd Try.prog 29 Un.c okUn :=
  Rd.struct Try.underlying29 (RdP.cons (sa := 1) rfl (by kernel_rfl) (Rd.int Try.underlying3) (RdP.cons (sa := 1) rfl (by kernel_rfl) (Rd.bool Try.underlying4) (RdP.one (sz := 1) rfl (by kernel_rfl) (Rd.bool Try.underlying4)))) (by kernel_rfl)
    (fun p => ⟨p.1, p.2.1, p.2.2⟩) (fun _ => rfl) (fun _ _ => trivial)
theorem rdUns : Rd Try.prog 24 (fun xs : List Un => [.sl 3 (xs.map Un.c) false]) (fun xs => xs.length * 16 ≤ 140737488351232 ∧ ∀ x ∈ xs, okUn x) :=
  Rd.slice (sz := 3) Try.underlying24 (by kernel_rfl) (by decide) (B := 16) (by kernel_rfl) rdUn
theorem rdRule : Rd Try.prog 23 (fun p : Int × Int => [pI p.1, pI p.2]) (fun _ => True) :=
  Rd.struct Try.underlying23 (RdP.cons (sa := 1) rfl (by kernel_rfl) (Rd.int Try.underlying3) (RdP.one (sz := 1) rfl (by kernel_rfl) (Rd.int Try.underlying3))) (by kernel_rfl) (fun p => p) (fun _ => rfl) (fun _ _ => trivial)
theorem rdSs : Rd Try.prog 26 sc (fun _ => True) :=
  Rd.struct Try.underlying26 (RdP.cons (sa := 1) rfl (by kernel_rfl) rdUns (RdP.cons (sa := 1) rfl (by kernel_rfl) (Rd.int Try.underlying3) (RdP.one (sz := 1) rfl (by kernel_rfl) (Rd.int Try.underlying3)))) (by kernel_rfl)
    (fun p => ⟨p.1, p.2.1, p.2.2⟩) (fun _ => rfl) (fun _ _ => trivial)
theorem rdBs : Rd Try.prog 64 (fun xs : List Bool => [.sl 1 (xs.map fbc) false]) (fun xs => xs.length * 1 ≤ 140737488351232 ∧ ∀ x ∈ xs, True) :=
  Rd.slice (sz := 1) Try.underlying64 (by kernel_rfl) (by decide) (B := 1) (by kernel_rfl) (Rd.bool Try.underlying4)
theorem rdIs : Rd Try.prog 49 (fun xs : List Int => [.sl 1 (xs.map nic) false]) (fun xs => xs.length * 8 ≤ 140737488351232 ∧ ∀ x ∈ xs, (Lit.int .i64 x).wf = true) :=
  Rd.slice (sz := 1) Try.underlying49 (by kernel_rfl) (by decide) (B := 8) (by kernel_rfl) (Rd.int Try.underlying3)
end Go.Eng.N
