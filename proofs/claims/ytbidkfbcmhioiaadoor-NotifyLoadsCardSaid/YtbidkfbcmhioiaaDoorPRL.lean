/- Notify: lines as data. -/
import Derived.Test.YtbidkfbcmhioiaaDoorPR
import Derived.Test.YtbidkfbcmhioiaaDoorEng2
import Derived.Test.YtbidkfbcmhioiaaDoorPK9
set_option linter.unusedVariables false
set_option linter.unusedSimpArgs false
set_option maxRecDepth 100000
namespace Go.Eng.N
open Go Go.Eng Go.RowKit Go.Proofs Go.Proofs.YtbidkfbcmhioiaaDoor
def okTk (t : Tk) : Prop := t.tx.size ≤ 140737488351232
def okLn (k : Kid) : Prop := IsLn k.c ∧ Tks k.ts ∧ k.ts.length < 2 ^ 58 ∧ k.ks.length < 2 ^ 58 ∧ ∀ x ∈ k.ks, IsLn x
theorem rdTk : Rd Tryd.prog 86 Tk.c okTk :=
  Rd.struct Tryd.underlying86 (RdP.cons (sa := 1) rfl (by kernel_rfl) (Rd.int (by kernel_rfl)) (RdP.cons (sa := 1) rfl (by kernel_rfl) (Rd.string Tryd.underlying9) (RdP.cons (sa := 1) rfl (by kernel_rfl) (Rd.int (by kernel_rfl)) (RdP.one (sz := 1) rfl (by kernel_rfl) (Rd.int (by kernel_rfl)))))) (by kernel_rfl)
    (fun p => ⟨p.1, p.2.1, p.2.2.1, p.2.2.2⟩) (fun _ => rfl) (fun _ h => h.2.1)
theorem rdTks : Rd Tryd.prog 27 (fun xs : List Tk => [.sl 4 (xs.map Tk.c) false]) (fun xs => xs.length * 40 ≤ 140737488351232 ∧ ∀ x ∈ xs, okTk x) :=
  Rd.slice (sz := 4) Tryd.underlying27 (by kernel_rfl) (by decide) (B := 40) (by kernel_rfl) rdTk
theorem rdLine : Rd Tryd.prog 30 Kid.c okLn :=
  Rd.two fun m h =>
    RdF.struct Tryd.underlying30 (RdPF.cons (sa := 1) rfl (by kernel_rfl) (rdTks.f _) (RdPF.cons (sa := 1) rfl (by kernel_rfl) ((Rd.bool Tryd.underlying4).f _) (RdPF.cons (sa := 1) rfl (by kernel_rfl)
      (RdF.slice (sz := 4) Tryd.underlying28 (by kernel_rfl) (by decide) (B := 64) (by kernel_rfl) h) (RdPF.one (sz := 1) rfl (by kernel_rfl) ((Rd.int Tryd.underlying3).f _))))) (by kernel_rfl)
      (fun p => ⟨p.1, false, p.2.1, p.2.2.1.map Kid.c, false, p.2.2.2⟩) (fun _ => rfl) (fun p hp => by
        have h1 : p.1.length * 40 ≤ 140737488351232 := hp.1.1
        have h2 : p.2.2.1.length * 64 ≤ 140737488351232 := hp.2.2.1.1
        have t1 : Tks p.1 := ⟨by omega, fun t ht => by have : t.tx.size ≤ 140737488351232 := hp.1.2 t ht; omega⟩
        have t2 : p.1.length < 2 ^ 58 := by omega
        have t3 : (p.2.2.1.map Kid.c).length < 2 ^ 58 := by rw [List.length_map]; omega
        have t4 : ∀ x ∈ p.2.2.1.map Kid.c, IsLn x := fun x hx => by
          obtain ⟨k, hk, rfl⟩ := List.mem_map.1 hx
          exact (hp.2.2.1.2 k hk).1
        exact ⟨.mk _ _ _ _ _ _ t1 t2 t3 t4, t1, t2, t3, t4⟩)
end Go.Eng.N
