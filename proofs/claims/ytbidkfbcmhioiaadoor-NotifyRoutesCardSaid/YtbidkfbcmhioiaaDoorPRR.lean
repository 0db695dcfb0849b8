/- Notify: classes, rules and events as data. -/
import Derived.Test.YtbidkfbcmhioiaaDoorPR
import Derived.Test.YtbidkfbcmhioiaaDoorPK11
set_option linter.unusedVariables false
set_option linter.unusedSimpArgs false
set_option maxRecDepth 100000
namespace Go.Eng.N
open Go Go.Eng Go.RowKit Go.Proofs Go.Proofs.YtbidkfbcmhioiaaDoor
theorem rdOff : Rd Tryd.prog 125 (fun xs : List Int => [.sl 1 (xs.map fun x => [pI x]) false]) (fun xs => xs.length * 8 ≤ 140737488351232 ∧ ∀ x ∈ xs, (Lit.int .i64 x).wf = true) :=
  Rd.slice (sz := 1) Tryd.underlying125 (by kernel_rfl) (by decide) (B := 8) (by kernel_rfl) (Rd.int Tryd.underlying2)
theorem rdRu : Rd Tryd.prog 127 Ru.c (fun _ => True) :=
  Rd.struct Tryd.underlying127 (RdP.cons (sa := 1) rfl (by kernel_rfl) (Rd.string Tryd.underlying9) (RdP.cons (sa := 1) rfl (by kernel_rfl) (Rd.string Tryd.underlying9) (RdP.cons (sa := 1) rfl (by kernel_rfl) (Rd.int Tryd.underlying2) (RdP.cons (sa := 1) rfl (by kernel_rfl) (Rd.int Tryd.underlying2) (RdP.cons (sa := 1) rfl (by kernel_rfl) (Rd.int Tryd.underlying2)
    (RdP.cons (sa := 1) rfl (by kernel_rfl) rdOff (RdP.cons (sa := 1) rfl (by kernel_rfl) (Rd.int Tryd.underlying3) (RdP.cons (sa := 1) rfl (by kernel_rfl) (Rd.int Tryd.underlying3) (RdP.one (sz := 1) rfl (by kernel_rfl) (Rd.string Tryd.underlying9)))))))))) (by kernel_rfl)
    (fun p => ⟨p.1, p.2.1, p.2.2.1, p.2.2.2.1, p.2.2.2.2.1, p.2.2.2.2.2.1, p.2.2.2.2.2.2.1, p.2.2.2.2.2.2.2.1, p.2.2.2.2.2.2.2.2⟩) (fun _ => rfl) (fun _ _ => trivial)
theorem rdCss : Rd Tryd.prog 78 (fun xs : List Cls => [.sl 4 (xs.map Cls.c) false]) (fun xs => xs.length * 56 ≤ 140737488351232 ∧ ∀ x ∈ xs, okCls x) :=
  Rd.slice (sz := 4) Tryd.underlying78 (by kernel_rfl) (by decide) (B := 56) (by kernel_rfl) rdCls
theorem rdRus : Rd Tryd.prog 79 (fun xs : List Ru => [.sl 9 (xs.map Ru.c) false]) (fun xs => xs.length * 112 ≤ 140737488351232 ∧ ∀ x ∈ xs, True) :=
  Rd.slice (sz := 9) Tryd.underlying79 (by kernel_rfl) (by decide) (B := 112) (by kernel_rfl) rdRu
theorem rdEvs : Rd Tryd.prog 80 (fun xs : List Ev => [.sl 7 (xs.map Ev.c) false]) (fun xs => xs.length * 64 ≤ 140737488351232 ∧ ∀ x ∈ xs, okEv x) :=
  Rd.slice (sz := 7) Tryd.underlying80 (by kernel_rfl) (by decide) (B := 64) (by kernel_rfl) rdEv
theorem csOk {cs : List Cls} (h : cs.length * 56 ≤ 140737488351232 ∧ ∀ x ∈ cs, okCls x) : Cs cs :=
  ⟨by have := h.1; omega, fun c hc => (h.2 c hc).nm, fun c hc => (h.2 c hc).sz⟩
end Go.Eng.N
