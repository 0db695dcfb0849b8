/- Collect: arguments as data. -/
import Derived.Test.YteclemahimldeaaEng2
import Derived.Test.YteclemahimldeaaWJ
import Derived.Test.YteclemahimldeaaRows
import Derived.KernelRfl
import Derived.FnData
set_option linter.unusedVariables false
set_option linter.unusedSimpArgs false
set_option maxRecDepth 100000
namespace Go.Eng.N
open Go Go.Eng Go.RowKit Go.Proofs Go.Proofs.Yteclemahimldeaa
theorem rdVal : Rd Try.prog 40 (fun p : Int × Int => [pI p.1, pI p.2]) (fun _ => True) :=
  Rd.struct Try.underlying40 (RdP.cons (sa := 1) rfl (by kernel_rfl) (Rd.int Try.underlying3) (RdP.one (sz := 1) rfl (by kernel_rfl) (Rd.int Try.underlying2))) (by kernel_rfl) (fun p => p) (fun _ => rfl) (fun _ _ => trivial)
theorem rdRec : Rd Try.prog 42 Rec.c (fun _ => True) :=
  Rd.struct Try.underlying42 (RdP.cons (sa := 1) rfl (by kernel_rfl) (Rd.int Try.underlying3) (RdP.cons (sa := 1) rfl (by kernel_rfl) (Rd.int Try.underlying3) (RdP.cons (sa := 2) rfl (by kernel_rfl) rdVal (RdP.cons (sa := 1) rfl (by kernel_rfl) (Rd.int Try.underlying3) (RdP.one (sz := 1) rfl (by kernel_rfl) (Rd.int Try.underlying3)))))) (by kernel_rfl)
    (fun p => ⟨p.1, p.2.1, p.2.2.1.1, p.2.2.1.2, p.2.2.2.1, p.2.2.2.2⟩) (fun _ => rfl) (fun _ _ => trivial)
theorem rdRecs : Rd Try.prog 27 (fun xs : List Rec => [.sl 6 (xs.map Rec.c) false]) (fun xs => xs.length * 48 ≤ 140737488351232 ∧ ∀ x ∈ xs, True) :=
  Rd.slice (sz := 6) Try.underlying27 (by kernel_rfl) (by decide) (B := 48) (by kernel_rfl) rdRec
end Go.Eng.N
