/- Notify: arguments as data, the tables of words. -/
import Derived.Test.YtbidkfbcmhioiaaDoorEng2
import Derived.Test.YtbidkfbcmhioiaaDoorPB
import Derived.Test.YtbidkfbcmhioiaaDoorRows
import Derived.KernelRfl
import Derived.LaidLaws
import Derived.FnData
set_option linter.unusedVariables false
set_option linter.unusedSimpArgs false
set_option maxRecDepth 100000
namespace Go.Eng.N
open Go Go.Eng Go.RowKit Go.Proofs Go.Proofs.YtbidkfbcmhioiaaDoor
structure Cls where
  nm : ByteArray
  pri : Int
  acks : Int
  rs : List Rc
/-- A class's cells. -/
def Cls.c (x : Cls) : List PC := [pS x.nm, pI x.pri, pI x.acks, .sl 5 (x.rs.map Rc.c) false]
structure Ev where
  no : Int
  pt : ByteArray
  at_ : Int
  frm : Int
  to : Int
  va : Int
  vb : Int
  deriving DecidableEq
def Ev.c (e : Ev) : List PC := [pI e.no, pS e.pt, pI e.at_, pI e.frm, pI e.to, pI e.va, pI e.vb]
def okRc (r : Rc) : Prop := r.nm.size ≤ 140737488351232
def okCls (x : Cls) : Prop := x.nm.size ≤ 140737488351232 ∧ (x.rs.length * 48 ≤ 140737488351232 ∧ ∀ r ∈ x.rs, okRc r)
def okEv (x : Ev) : Prop := x.pt.size ≤ 140737488351232
theorem rdRc : Rd Tryd.prog 68 Rc.c okRc :=
  Rd.struct Tryd.underlying68 (RdP.cons (sa := 1) rfl (by kernel_rfl) (Rd.string Tryd.underlying9) (RdP.cons (sa := 1) rfl (by kernel_rfl) (Rd.int Tryd.underlying3) (RdP.cons (sa := 1) rfl (by kernel_rfl) (Rd.int Tryd.underlying3) (RdP.cons (sa := 1) rfl (by kernel_rfl) (Rd.int Tryd.underlying3) (RdP.one (sz := 1) rfl (by kernel_rfl) (Rd.int Tryd.underlying3)))))) (by kernel_rfl)
    (fun p => ⟨p.1, p.2.1, p.2.2.1, p.2.2.2.1, p.2.2.2.2⟩) (fun _ => rfl) (fun _ h => h.1)
theorem rdRcs : Rd Tryd.prog 22 (fun xs : List Rc => [.sl 5 (xs.map Rc.c) false]) (fun xs => xs.length * 48 ≤ 140737488351232 ∧ ∀ x ∈ xs, okRc x) :=
  Rd.slice (sz := 5) Tryd.underlying22 (by kernel_rfl) (by decide) (B := 48) (by kernel_rfl) rdRc
theorem rdCls : Rd Tryd.prog 24 Cls.c okCls :=
  Rd.struct Tryd.underlying24 (RdP.cons (sa := 1) rfl (by kernel_rfl) (Rd.string Tryd.underlying9) (RdP.cons (sa := 1) rfl (by kernel_rfl) (Rd.int Tryd.underlying3) (RdP.cons (sa := 1) rfl (by kernel_rfl) (Rd.int Tryd.underlying3) (RdP.one (sz := 1) rfl (by kernel_rfl) rdRcs)))) (by kernel_rfl)
    (fun p => ⟨p.1, p.2.1, p.2.2.1, p.2.2.2⟩) (fun _ => rfl) (fun _ h => ⟨h.1, h.2.2.2⟩)
theorem rdVal : Rd Tryd.prog 37 (fun p : Int × Int => [pI p.1, pI p.2]) (fun _ => True) :=
  Rd.struct Tryd.underlying37 (RdP.cons (sa := 1) rfl (by kernel_rfl) (Rd.int Tryd.underlying3) (RdP.one (sz := 1) rfl (by kernel_rfl) (Rd.int Tryd.underlying2))) (by kernel_rfl) (fun p => p) (fun _ => rfl) (fun _ _ => trivial)
theorem rdEv : Rd Tryd.prog 39 Ev.c okEv :=
  Rd.struct Tryd.underlying39 (RdP.cons (sa := 1) rfl (by kernel_rfl) (Rd.int Tryd.underlying3) (RdP.cons (sa := 1) rfl (by kernel_rfl) (Rd.string Tryd.underlying9) (RdP.cons (sa := 1) rfl (by kernel_rfl) (Rd.int Tryd.underlying3) (RdP.cons (sa := 1) rfl (by kernel_rfl) (Rd.int Tryd.underlying3) (RdP.cons (sa := 1) rfl (by kernel_rfl) (Rd.int Tryd.underlying3) (RdP.one (sz := 2) rfl (by kernel_rfl) rdVal)))))) (by kernel_rfl)
    (fun p => ⟨p.1, p.2.1, p.2.2.1, p.2.2.2.1, p.2.2.2.2.1, p.2.2.2.2.2.1, p.2.2.2.2.2.2⟩) (fun _ => rfl) (fun _ h => h.2.1)
theorem okCls.nm {x : Cls} (h : okCls x) : x.nm.size < 2 ^ 59 := by have := h.1; omega
theorem okCls.sz {x : Cls} (h : okCls x) : Sz x.rs := ⟨by have := h.2.1; omega, fun r hr => by have : r.nm.size ≤ 140737488351232 := h.2.2 r hr; omega⟩
/-! ### The tables -/
abbrev laidL : List (String × DataW Unit) := [("plenum/notify.days", Rows.laid_plenum_notify_days), ("plenum/notify.kinds", Rows.laid_plenum_notify_kinds)]
def daysB : List (List UInt8) := [[109, 111, 110], [116, 117, 101], [119, 101, 100], [116, 104, 117], [102, 114, 105], [115, 97, 116], [115, 117, 110]]
def kindsB : List (List UInt8) := [[97, 108, 97, 114, 109], [102, 97, 117, 108, 116], [110, 111, 114, 109, 97, 108]]
theorem tables {W : World} (h : laidMet Tryd.prog laidL W) : (∃ u, W.cell? ⟨1, 0, none⟩ = some u ∧ RepC (old W) W (.sl 1 (daysB.map fun x => [.c (.string ⟨x.toArray⟩)]) false) u) ∧ (∃ u, W.cell? ⟨0, 0, none⟩ = some u ∧ RepC (old W) W (.sl 1 (kindsB.map fun x => [.c (.string ⟨x.toArray⟩)]) false) u) := by
  obtain ⟨_, ⟨g1, t1, cs1, fu1, p1, q1, hg1, ht1, hv1, hd1, ⟨g2, t2, cs2, fu2, p2, q2, hg2, ht2, hv2, hd2, _⟩, _⟩, _⟩ := h
  obtain rfl := Option.some.inj ((show Tryd.prog.globalNamed "plenum/notify.days" = some 1 by kernel_rfl).symm.trans hg1)
  obtain rfl := Option.some.inj ((show Tryd.prog.globalNamed "plenum/notify.kinds" = some 0 by kernel_rfl).symm.trans hg2)
  obtain rfl := Option.some.inj ((show (Tryd.prog.globals[1]?).map (·.type) = some 40 by kernel_rfl).symm.trans ht1)
  obtain rfl := Option.some.inj ((show (Tryd.prog.globals[0]?).map (·.type) = some 40 by kernel_rfl).symm.trans ht2)
  obtain ⟨u1, e1, r1⟩ := words_of (l := daysB) Tryd.underlying40 Tryd.underlying9 (by kernel_rfl) hd1
  obtain ⟨u2, e2, r2⟩ := words_of (l := kindsB) Tryd.underlying40 Tryd.underlying9 (by kernel_rfl) hd2
  refine ⟨⟨u1, ?_, r1⟩, ⟨u2, ?_, r2⟩⟩
  · rw [World.var?_cell hg1 hv1 0, ← Array.getElem?_toList, e1]; rfl
  · rw [World.var?_cell hg2 hv2 0, ← Array.getElem?_toList, e2]; rfl
theorem glob_ok {W : World} (h : laidMet Tryd.prog laidL W) : GlobOk glob (old W) W := by
  obtain ⟨⟨u1, a1, b1⟩, ⟨u2, a2, b2⟩⟩ := tables h
  intro g cs hg j x hx
  by_cases h0 : g = 0
  · subst h0
    have e : cs = [.sl 1 (kindsB.map fun x => [.c (.string ⟨x.toArray⟩)]) false] := Option.some.inj (hg.symm.trans (by kernel_rfl))
    subst e
    have hj : j = 0 := by
      have := (List.getElem?_eq_some_iff.1 hx).1
      simpa using this
    subst hj
    obtain rfl := Option.some.inj (hx.symm.trans (show _ = some (PC.sl 1 (kindsB.map fun x => [PC.c (.string ⟨x.toArray⟩)]) false) from rfl))
    exact ⟨World.block_lt_of_cell? W ⟨0, 0, none⟩ a2, u2, a2, b2⟩
  · by_cases h1 : g = 1
    · subst h1
      have e : cs = [.sl 1 (daysB.map fun x => [.c (.string ⟨x.toArray⟩)]) false] := Option.some.inj (hg.symm.trans (by kernel_rfl))
      subst e
      have hj : j = 0 := by
        have := (List.getElem?_eq_some_iff.1 hx).1
        simpa using this
      subst hj
      obtain rfl := Option.some.inj (hx.symm.trans (show _ = some (PC.sl 1 (daysB.map fun x => [PC.c (.string ⟨x.toArray⟩)]) false) from rfl))
      exact ⟨World.block_lt_of_cell? W ⟨1, 0, none⟩ a1, u1, a1, b1⟩
    · have : glob g = none := by
        unfold glob lookN lookN lookN
        rw [show ((0 : Nat) == g) = false from beq_eq_false_iff_ne.2 (fun e => h0 e.symm), show ((1 : Nat) == g) = false from beq_eq_false_iff_ne.2 (fun e => h1 e.symm)]
        rfl
      rw [this] at hg; cases hg
end Go.Eng.N
