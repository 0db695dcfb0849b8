/- Exceptions: arguments as data, the table of lengths. -/
import Derived.Test.YtcklpjecelnamaaDoorEng3
import Derived.Test.YtcklpjecelnamaaDoorXG
import Derived.Test.YtcklpjecelnamaaDoorFn1
import Derived.Test.YtcklpjecelnamaaDoorRows
import Derived.KernelRfl
import Derived.LaidLaws
import Derived.FnData
set_option linter.unusedVariables false
set_option linter.unusedSimpArgs false
set_option maxRecDepth 100000
namespace Go.Eng.N
open Go Go.Eng Go.RowKit Go.Proofs Go.Proofs.YtcklpjecelnamaaDoor
def okCal (c : Cal) : Prop:=c.name.size≤140737488351232∧c.ps.length * 88≤140737488351232
def okExc (x : Exc) : Prop:=x.es.length * 24≤140737488351232
theorem rdDate : Rd Tryd.prog 47 (fun p : Int×Int×Int=>[pI p.1,pI p.2.1,pI p.2.2]) (fun _=>True) :=
  Rd.struct Tryd.underlying47 (RdP.cons (sa:=1) rfl (by kernel_rfl) (Rd.int Tryd.underlying3) (RdP.cons (sa:=1) rfl (by kernel_rfl) (Rd.int Tryd.underlying3) (RdP.one (sz:=1) rfl (by kernel_rfl) (Rd.int Tryd.underlying3)))) (by kernel_rfl) (fun p=>p) (fun _=>rfl) (fun _ _=>trivial)
theorem rdPt : Rd Tryd.prog 49 Pt.c (fun _=>True) :=
  Rd.struct Tryd.underlying49 (RdP.cons (sa:=1) rfl (by kernel_rfl) (Rd.int Tryd.underlying3) (RdP.cons (sa:=1) rfl (by kernel_rfl) (Rd.int Tryd.underlying3) (RdP.cons (sa:=1) rfl (by kernel_rfl) (Rd.int Tryd.underlying3) (RdP.cons (sa:=1) rfl (by kernel_rfl) (Rd.int Tryd.underlying3) (RdP.cons (sa:=1) rfl (by kernel_rfl) (Rd.int Tryd.underlying3) (RdP.cons (sa:=3) rfl (by kernel_rfl) rdDate (RdP.one (sz:=3) rfl (by kernel_rfl) rdDate))))))) (by kernel_rfl)
    (fun p=>⟨p.1,p.2.1,p.2.2.1,p.2.2.2.1,p.2.2.2.2.1,p.2.2.2.2.2.1.1,p.2.2.2.2.2.1.2.1,p.2.2.2.2.2.1.2.2,p.2.2.2.2.2.2.1,p.2.2.2.2.2.2.2.1,p.2.2.2.2.2.2.2.2⟩) (fun _=>rfl) (fun _ _=>trivial)
theorem rdPts : Rd Tryd.prog 22 (fun xs : List Pt=>[.sl 11 (xs.map Pt.c) false]) (fun xs=>xs.length * 88≤140737488351232∧∀ x∈xs,True) :=
  Rd.slice (sz:=11) Tryd.underlying22 (by kernel_rfl) (by decide) (B:=88) (by kernel_rfl) rdPt
theorem rdCal : Rd Tryd.prog 24 Cal.c okCal :=
  Rd.struct Tryd.underlying24 (RdP.cons (sa:=1) rfl (by kernel_rfl) (Rd.string Tryd.underlying9) (RdP.one (sz:=1) rfl (by kernel_rfl) rdPts)) (by kernel_rfl)
    (fun p=>⟨p.1,p.2,false⟩) (fun _=>rfl) (fun _ h=>⟨h.1,h.2.1⟩)
theorem rdVal : Rd Tryd.prog 42 (fun p : Int×Int=>[pI p.1,pI p.2]) (fun _=>True) :=
  Rd.struct Tryd.underlying42 (RdP.cons (sa:=1) rfl (by kernel_rfl) (Rd.int Tryd.underlying3) (RdP.one (sz:=1) rfl (by kernel_rfl) (Rd.int Tryd.underlying2))) (by kernel_rfl) (fun p=>p) (fun _=>rfl) (fun _ _=>trivial)
theorem rdEn : Rd Tryd.prog 54 En.c (fun _=>True) :=
  Rd.struct Tryd.underlying54 (RdP.cons (sa:=1) rfl (by kernel_rfl) (Rd.int Tryd.underlying3) (RdP.one (sz:=2) rfl (by kernel_rfl) rdVal)) (by kernel_rfl) (fun p=>⟨p.1,p.2.1,p.2.2⟩) (fun _=>rfl) (fun _ _=>trivial)
theorem rdEns : Rd Tryd.prog 50 (fun xs : List En=>[.sl 3 (xs.map En.c) false]) (fun xs=>xs.length * 24≤140737488351232∧∀ x∈xs,True) :=
  Rd.slice (sz:=3) Tryd.underlying50 (by kernel_rfl) (by decide) (B:=24) (by kernel_rfl) rdEn
theorem rdExc : Rd Tryd.prog 52 Exc.c okExc :=
  Rd.struct Tryd.underlying52 (RdP.cons (sa:=1) rfl (by kernel_rfl) (Rd.string Tryd.underlying9) (RdP.cons (sa:=11) rfl (by kernel_rfl) rdPt (RdP.cons (sa:=1) rfl (by kernel_rfl) (Rd.string Tryd.underlying9) (RdP.cons (sa:=1) rfl (by kernel_rfl) (Rd.int Tryd.underlying3) (RdP.one (sz:=1) rfl (by kernel_rfl) rdEns))))) (by kernel_rfl)
    (fun p=>⟨p.1,p.2.1,p.2.2.1,p.2.2.2.1,p.2.2.2.2,false⟩) (fun _=>rfl) (fun _ h=>h.2.2.2.2.1)
theorem rdExcs : Rd Tryd.prog 37 (fun xs : List Exc=>[.sl 15 (xs.map Exc.c) false]) (fun xs=>xs.length * 152≤140737488351232∧∀ x∈xs,okExc x) :=
  Rd.slice (sz:=15) Tryd.underlying37 (by kernel_rfl) (by decide) (B:=152) (by kernel_rfl) rdExc
theorem rdCals : Rd Tryd.prog 38 (fun xs : List Cal=>[.sl 2 (xs.map Cal.c) false]) (fun xs=>xs.length * 40≤140737488351232∧∀ x∈xs,okCal x) :=
  Rd.slice (sz:=2) Tryd.underlying38 (by kernel_rfl) (by decide) (B:=40) (by kernel_rfl) rdCal
theorem es_ok {l : List Exc} (h : ∀ x∈l,okExc x) : ∀ x∈l,x.es.length≤2 ^ 48:=fun x hx=>by have : x.es.length * 24≤140737488351232:=h x hx; omega
theorem ps_ok {l : List Cal} (h : ∀ x∈l,okCal x) : ∀ x∈l,x.ps.length≤2 ^ 48:=fun x hx=>by have:=(h x hx).2; omega
abbrev laidL : List (String × DataW Unit) := [("plenum/civil.lengths", Rows.laid_plenum_civil_lengths)]
theorem int_of_trod {H : Type} {enc : TypeId×Value→H} {P : Program} {w : World} {base : Nat} {sp : Nat→Bool} {held : Bool} {fuel : Nat} {t : TypeId} {k : IntKind} {c : Value} {y : DataW H×List MemPlace}
    (ht : P.underlying t = some (.int k)) (h : DataW.trod enc P w base sp held fuel t [c] = some y) : ∃ n,c = .int k n∧y = (.lit (.int k n),[]):=by
  cases fuel with
  | zero=>simp [DataW.trod] at h
  | succ fuel =>
    cases c <;> simp [DataW.trod,ht] at h
    rename_i k' n
    obtain ⟨⟨rfl,_⟩,rfl⟩:=h
    exact ⟨n,rfl,rfl⟩
def cells13 : Array Value:=#[.int .i64 0,.int .i64 31,.int .i64 28,.int .i64 31,.int .i64 30,.int .i64 31,.int .i64 30,.int .i64 31,.int .i64 31,.int .i64 30,.int .i64 31,.int .i64 30,.int .i64 31]
theorem glob0 : Tryd.prog.globalNamed "plenum/civil.lengths" = some 0 := by kernel_rfl
theorem gtype : (Tryd.prog.globals[0]?).map (·.type) = some 110:=by kernel_rfl
theorem cells110 : Tryd.prog.cellsOf 110 = 13:=by kernel_rfl
theorem cells3 : Tryd.prog.cellsOf 3 = 1:=by kernel_rfl
theorem cells_of_laid {W : World} (h : laidMet Tryd.prog laidL W) : W.var? Tryd.prog "plenum/civil.lengths" = some cells13 := by
  obtain ⟨ps,⟨g,t,cs,fuel,p,q,hg,ht,hvar,hd,_,_⟩,_⟩:=h
  obtain rfl:=Option.some.inj (glob0.symm.trans hg)
  obtain rfl:=Option.some.inj (gtype.symm.trans ht)
  rw [hvar]
  congr 1
  obtain ⟨l⟩:=cs
  cases fuel with
  | zero=>simp [DataW.trod] at hd
  | succ fuel =>
    simp only [DataW.trod,Tryd.underlying110,cells110,cells3] at hd
    split at hd
    · rename_i hl
      obtain ⟨c0,c1,c2,c3,c4,c5,c6,c7,c8,c9,c10,c11,c12,rfl⟩ : ∃ c0 c1 c2 c3 c4 c5 c6 c7 c8 c9 c10 c11 c12,l = [c0,c1,c2,c3,c4,c5,c6,c7,c8,c9,c10,c11,c12]:=by
        match l,hl with
        | [a0,a1,a2,a3,a4,a5,a6,a7,a8,a9,a10,a11,a12],_=>exact ⟨a0,a1,a2,a3,a4,a5,a6,a7,a8,a9,a10,a11,a12,rfl⟩
      have e : List.range 13 = [0,1,2,3,4,5,6,7,8,9,10,11,12]:=rfl
      rw [e] at hd
      simp only [Option.map_eq_some_iff,List.mapM_cons,List.mapM_nil,Option.bind_eq_bind,Option.bind_eq_some_iff,Option.pure_def,Option.some.injEq] at hd
      obtain ⟨xs,⟨y0,h0,_,⟨y1,h1,_,⟨y2,h2,_,⟨y3,h3,_,⟨y4,h4,_,⟨y5,h5,_,⟨y6,h6,_,⟨y7,h7,_,⟨y8,h8,_,⟨y9,h9,_,⟨y10,h10,_,⟨y11,h11,_,⟨y12,h12,_,rfl,rfl⟩,rfl⟩,rfl⟩,rfl⟩,rfl⟩,rfl⟩,rfl⟩,rfl⟩,rfl⟩,rfl⟩,rfl⟩,rfl⟩,rfl⟩,hx⟩:=hd
      obtain ⟨n0,rfl,rfl⟩:=int_of_trod Tryd.underlying3 h0
      obtain ⟨n1,rfl,rfl⟩:=int_of_trod Tryd.underlying3 h1
      obtain ⟨n2,rfl,rfl⟩:=int_of_trod Tryd.underlying3 h2
      obtain ⟨n3,rfl,rfl⟩:=int_of_trod Tryd.underlying3 h3
      obtain ⟨n4,rfl,rfl⟩:=int_of_trod Tryd.underlying3 h4
      obtain ⟨n5,rfl,rfl⟩:=int_of_trod Tryd.underlying3 h5
      obtain ⟨n6,rfl,rfl⟩:=int_of_trod Tryd.underlying3 h6
      obtain ⟨n7,rfl,rfl⟩:=int_of_trod Tryd.underlying3 h7
      obtain ⟨n8,rfl,rfl⟩:=int_of_trod Tryd.underlying3 h8
      obtain ⟨n9,rfl,rfl⟩:=int_of_trod Tryd.underlying3 h9
      obtain ⟨n10,rfl,rfl⟩:=int_of_trod Tryd.underlying3 h10
      obtain ⟨n11,rfl,rfl⟩:=int_of_trod Tryd.underlying3 h11
      obtain ⟨n12,rfl,rfl⟩:=int_of_trod Tryd.underlying3 h12
      simp [Rows.laid_plenum_civil_lengths] at hx
      obtain ⟨⟨rfl,rfl,rfl,rfl,rfl,rfl,rfl,rfl,rfl,rfl,rfl,rfl,rfl⟩,_⟩:=hx
      rfl
    · cases hd
theorem glob_ok {W : World} (h : laidMet Tryd.prog laidL W) : GlobOk glob (old W) W:=by
  have hc:=cells_of_laid h
  intro g cs hg j x hx
  by_cases h0 : g = 0
  · subst h0
    have e : cs = [pI 0,pI 31,pI 28,pI 31,pI 30,pI 31,pI 30,pI 31,pI 31,pI 30,pI 31,pI 30,pI 31]:=Option.some.inj (hg.symm.trans (by kernel_rfl))
    subst e
    have hj:=(List.getElem?_eq_some_iff.1 hx).1
    have hw : ∀ u,cells13[j]? = some u→W.cell? ⟨0,j,none⟩ = some u:=fun u hu=>by
      rw [World.var?_cell glob0 hc j]; exact hu
    have : ∃ u,cells13[j]? = some u∧RepC (old W) W x u:=by
      have hj2 : j < 13:=hj
      have : j = 0∨j = 1∨j = 2∨j = 3∨j = 4∨j = 5∨j = 6∨j = 7∨j = 8∨j = 9∨j = 10∨j = 11∨j = 12:=by omega
      rcases this with rfl | rfl | rfl | rfl | rfl | rfl | rfl | rfl | rfl | rfl | rfl | rfl | rfl <;> (obtain rfl:=Option.some.inj hx; exact ⟨_,rfl,RepC.c _ rfl⟩)
    obtain ⟨u,hu,hr⟩:=this
    exact ⟨World.block_lt_of_cell? W ⟨0,j,none⟩ (hw u hu),u,hw u hu,hr⟩
  · have : glob g = none:=by
      unfold glob lookN lookN
      rw [show ((0 : Nat) == g) = false from beq_eq_false_iff_ne.2 (fun e=>h0 e.symm)]
      rfl
    rw [this] at hg; cases hg
end Go.Eng.N
