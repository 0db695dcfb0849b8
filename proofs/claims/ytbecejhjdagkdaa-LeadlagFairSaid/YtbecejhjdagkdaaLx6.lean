-- Written by pp.py (a program of this session, over the kit's print.py) out of the translation. Not trusted: Lean checks it.
import Derived.Test.YtbecejhjdagkdaaLx0
import Derived.Test.YtbecejhjdagkdaaLx4
import Derived.Test.YtbecejhjdagkdaaLx5
namespace Go.Proofs.Ytbecejhjdagkdaa.L
open Go.RowKit Go.Proofs.YtbecejhjdagkdaaW.PrintWords Go.Proofs.YtbecejhjdagkdaaW.PrintLast Go.Proofs.YtbecejhjdagkdaaW.PrintMore
attribute [local go_sem] max2_int min2_int max_two min_two max_three min_three max_four min_four   -- for this text's walks alone
attribute [local go_sem] pp_mod256 pp_mod256_w
set_option linter.unusedVariables false
set_option linter.unusedSimpArgs false

/-! ### leadlag_step: function 42 -/
mutual
def leadlag_step.l0 : Nat→Int→List Bool→Int→Int→Int→Int→Int→List (S62)→Int→Int→List (S62)→Option ((List (S62)) × Int × Int)
 | 0,_,_,_,_,_,_,_,_,_,_,_ => none
 | k + 1,x2,x3,x4,x31,x32,x144000,x144001,x145000,x145001,x145002,x150000 => if x32 < x31 then (if 0 ≤ x32 then (if x32 < (x150000.length : Int) then (if (rd_T62 x150000 x32).f1 = true then (leadlag_step.j1 k x2 x3 x4 x32 x31 x32 x144000 x144001 x145000 x145001 x145002 (x150000.set (x32 : Int).toNat (⟨mn (wrap64 (((rd_T62 x150000 x32).f0) + 1)) 6311433599,(rd_T62 x150000 x32).f1,(rd_T62 x150000 x32).f2⟩ : S62))) else (leadlag_step.j1 k x2 x3 x4 x32 x31 x32 x144000 x144001 x145000 x145001 x145002 x150000)) else (none)) else (none)) else ((leadlag_countWell.f k x150000 x145001 x145002).bind fun t160 => ((leadlag_Order.f k x150000 x145001 x145002).bind fun t161 => (if x4 ≥ (wrap64 (x145002 + x144000)) then ((leadlag_countOn.f k x150000 x145001 x145002).bind fun t164 => (leadlag_step.l1 k x4 (mx 0 (mn x2 t160)) t161 (mn (mx 0 (mn x2 t160)) t164) t161 (t161.length : Int) 0 x144000 x144001 x145000 x145001 x145002 x150000)) else (leadlag_step.l2 k x4 (mx 0 (mn x2 t160)) t161 (wrap64 ((t161.length : Int) - 1)) x144000 x144001 x145000 x145001 x145002 x150000))))
def leadlag_step.j1 : Nat→Int→List Bool→Int→Int→Int→Int→Int→Int→List (S62)→Int→Int→List (S62)→Option ((List (S62)) × Int × Int)
 | 0,_,_,_,_,_,_,_,_,_,_,_,_ => none
 | k + 1,x2,x3,x4,x12,x31,x32,x144000,x144001,x145000,x145001,x145002,x150000 => if 0 ≤ x12 then (if x12 < (x3.length : Int) then (if x12 < (x150000.length : Int) then ((some (x150000.set (x12 : Int).toNat (⟨(rd_T62 x150000 x12).f0,(rd_T62 x150000 x12).f1,rdOf false x3 x12⟩ : S62) : List (S62))).bind fun y155 => (if (rd_T62 y155 x12).f1 = true then (leadlag_step.l0 k x2 x3 x4 x31 (wrap64 (x32 + 1)) x144000 x144001 x145000 x145001 x145002 (y155.set (x12 : Int).toNat (⟨(rd_T62 y155 x12).f0,!(rdOf false x3 x12),(rd_T62 y155 x12).f2⟩ : S62))) else (leadlag_step.l0 k x2 x3 x4 x31 (wrap64 (x32 + 1)) x144000 x144001 x145000 x145001 x145002 (y155.set (x12 : Int).toNat (⟨(rd_T62 y155 x12).f0,false,(rd_T62 y155 x12).f2⟩ : S62))))) else (none)) else (none)) else (none)
def leadlag_step.j4 : Nat→Int→Int→List Int→Int→Int→List (S62)→Int→Int→List (S62)→Option ((List (S62)) × Int × Int)
 | 0,_,_,_,_,_,_,_,_,_ => none
 | k + 1,x4,x13,x14,x144000,x144001,x145000,x145001,x145002,x150000 => (leadlag_countOn.f k x150000 x145001 x145002).bind fun t170 => (if t170 < x13 then (if x145001 = (-1) then ((leadlag_firstOff.f k x14 x150000).bind fun t171 => (if 0 ≤ t171 then (if t171 < (x14.length : Int) then (if 0 ≤ (rd x14 t171) then (if (rd x14 t171) < (x150000.length : Int) then (some ((x150000.set ((rd x14 t171) : Int).toNat (⟨(rd_T62 x150000 (rd x14 t171)).f0,true,(rd_T62 x150000 (rd x14 t171)).f2⟩ : S62)),x4,x145002)) else (none)) else (none)) else (none)) else (none))) else (if x4 ≥ (wrap64 (x145001 + x144001)) then ((leadlag_firstOff.f k x14 x150000).bind fun t174 => (if 0 ≤ t174 then (if t174 < (x14.length : Int) then (if 0 ≤ (rd x14 t174) then (if (rd x14 t174) < (x150000.length : Int) then (some ((x150000.set ((rd x14 t174) : Int).toNat (⟨(rd_T62 x150000 (rd x14 t174)).f0,true,(rd_T62 x150000 (rd x14 t174)).f2⟩ : S62)),x4,x145002)) else (none)) else (none)) else (none)) else (none))) else (some (x150000,x145001,x145002)))) else (some (x150000,x145001,x145002)))
def leadlag_step.l1 : Nat→Int→Int→List Int→Int→List Int→Int→Int→Int→Int→List (S62)→Int→Int→List (S62)→Option ((List (S62)) × Int × Int)
 | 0,_,_,_,_,_,_,_,_,_,_,_,_,_ => none
 | k + 1,x4,x13,x14,x15,x94,x95,x96,x144000,x144001,x145000,x145001,x145002,x150000 => if x96 < x95 then (if 0 ≤ x96 then (if x96 < (x94.length : Int) then (if 0 ≤ (rd x94 x96) then (if (rd x94 x96) < (x150000.length : Int) then (leadlag_step.l1 k x4 x13 x14 x15 x94 x95 (wrap64 (x96 + 1)) x144000 x144001 x145000 x145001 x145002 (x150000.set ((rd x94 x96) : Int).toNat (⟨(rd_T62 x150000 (rd x94 x96)).f0,decide (x96 < x15),(rd_T62 x150000 (rd x94 x96)).f2⟩ : S62))) else (none)) else (none)) else (none)) else (none)) else (leadlag_step.j4 k x4 x13 x14 x144000 x144001 x145000 x145001 x4 x150000)
def leadlag_step.l2 : Nat→Int→Int→List Int→Int→Int→Int→List (S62)→Int→Int→List (S62)→Option ((List (S62)) × Int × Int)
 | 0,_,_,_,_,_,_,_,_,_,_ => none
 | k + 1,x4,x13,x14,x18,x144000,x144001,x145000,x145001,x145002,x150000 => if x18 ≥ 0 then ((leadlag_countOn.f k x150000 x145001 x145002).bind fun t167 => (if t167 > x13 then (if 0 ≤ x18 then (if x18 < (x14.length : Int) then (if 0 ≤ (rd x14 x18) then (if (rd x14 x18) < (x150000.length : Int) then (leadlag_step.l2 k x4 x13 x14 (wrap64 (x18 - 1)) x144000 x144001 x145000 x145001 x145002 (x150000.set ((rd x14 x18) : Int).toNat (⟨(rd_T62 x150000 (rd x14 x18)).f0,false,(rd_T62 x150000 (rd x14 x18)).f2⟩ : S62))) else (none)) else (none)) else (none)) else (none)) else (leadlag_step.j4 k x4 x13 x14 x144000 x144001 x145000 x145001 x145002 x150000))) else (leadlag_step.j4 k x4 x13 x14 x144000 x144001 x145000 x145001 x145002 x150000)
end
def leadlag_step.f (k : Nat) (a0_0 : Int) (a0_1 : Int) (l1_0 : List (S62)) (a1_1 : Int) (a1_2 : Int) (a2 : Int) (l3 : List Bool) (a4 : Int) : Option ((List (S62)) × Int × Int):=if 0 ≤ (l1_0.length : Int) then (if ((l1_0.length : Int) : Int).toNat ≤ 17592186044416 then ((some (List.replicate ((l1_0.length : Int) : Int).toNat z62 : List (S62))).bind fun y146 => ((leadlag_copyUnits.f y146 l1_0).bind fun t150 => (leadlag_step.l0 k a2 l3 a4 (y146.length : Int) 0 a0_0 a0_1 l1_0 a1_1 a1_2 t150))) else (none)) else (none)
theorem leadlag_step.mono_l : ∀ k,(∀ y0 y1 y2 y3 y4 y5 y6 y7 y8 y9 y10,LeO (leadlag_step.l0 k y0 y1 y2 y3 y4 y5 y6 y7 y8 y9 y10) (leadlag_step.l0 (k + 1) y0 y1 y2 y3 y4 y5 y6 y7 y8 y9 y10))∧(∀ y0 y1 y2 y3 y4 y5 y6 y7 y8 y9 y10 y11,LeO (leadlag_step.j1 k y0 y1 y2 y3 y4 y5 y6 y7 y8 y9 y10 y11) (leadlag_step.j1 (k + 1) y0 y1 y2 y3 y4 y5 y6 y7 y8 y9 y10 y11))∧(∀ y0 y1 y2 y3 y4 y5 y6 y7 y8,LeO (leadlag_step.j4 k y0 y1 y2 y3 y4 y5 y6 y7 y8) (leadlag_step.j4 (k + 1) y0 y1 y2 y3 y4 y5 y6 y7 y8))∧(∀ y0 y1 y2 y3 y4 y5 y6 y7 y8 y9 y10 y11 y12,LeO (leadlag_step.l1 k y0 y1 y2 y3 y4 y5 y6 y7 y8 y9 y10 y11 y12) (leadlag_step.l1 (k + 1) y0 y1 y2 y3 y4 y5 y6 y7 y8 y9 y10 y11 y12))∧(∀ y0 y1 y2 y3 y4 y5 y6 y7 y8 y9,LeO (leadlag_step.l2 k y0 y1 y2 y3 y4 y5 y6 y7 y8 y9) (leadlag_step.l2 (k + 1) y0 y1 y2 y3 y4 y5 y6 y7 y8 y9))
 | 0 => ⟨fun _ _ _ _ _ _ _ _ _ _ _ r h => by simp [leadlag_step.l0] at h,fun _ _ _ _ _ _ _ _ _ _ _ _ r h => by simp [leadlag_step.j1] at h,fun _ _ _ _ _ _ _ _ _ r h => by simp [leadlag_step.j4] at h,fun _ _ _ _ _ _ _ _ _ _ _ _ _ r h => by simp [leadlag_step.l1] at h,fun _ _ _ _ _ _ _ _ _ _ r h => by simp [leadlag_step.l2] at h⟩
 | k + 1 => by
  obtain ⟨ih0,ih1,ih2,ih3,ih4⟩:=leadlag_step.mono_l k
  refine ⟨?_,?_,?_,?_,?_⟩
  ·intro y0 y1 y2 y3 y4 y5 y6 y7 y8 y9 y10
   unfold leadlag_step.l0
   repeat' first
   | (with_reducible exact ih0 _ _ _ _ _ _ _ _ _ _ _)
   | (with_reducible exact ih1 _ _ _ _ _ _ _ _ _ _ _ _)
   | (with_reducible exact ih2 _ _ _ _ _ _ _ _ _)
   | (with_reducible exact ih3 _ _ _ _ _ _ _ _ _ _ _ _ _)
   | (with_reducible exact ih4 _ _ _ _ _ _ _ _ _ _)
   | (with_reducible exact leadlag_Order.mono _ _ _ _)
   | (with_reducible exact leadlag_countOn.mono _ _ _ _)
   | (with_reducible exact leadlag_countWell.mono _ _ _ _)
   | (with_reducible exact leadlag_firstOff.mono _ _ _)
   | (with_reducible exact LeO.refl _)
   | (with_reducible exact LeO.none _)
   | (with_reducible refine LeO.ite ?_ ?_)
   | (with_reducible refine LeO.bind ?_ (fun _ => ?_))
   | exact ih0 _ _ _ _ _ _ _ _ _ _ _
   | exact ih1 _ _ _ _ _ _ _ _ _ _ _ _
   | exact ih2 _ _ _ _ _ _ _ _ _
   | exact ih3 _ _ _ _ _ _ _ _ _ _ _ _ _
   | exact ih4 _ _ _ _ _ _ _ _ _ _
   | exact leadlag_Order.mono _ _ _ _
   | exact leadlag_countOn.mono _ _ _ _
   | exact leadlag_countWell.mono _ _ _ _
   | exact leadlag_firstOff.mono _ _ _
   | exact LeO.none _
   | refine LeO.ite ?_ ?_
   | refine LeO.bind ?_ (fun _ => ?_)
  ·intro y0 y1 y2 y3 y4 y5 y6 y7 y8 y9 y10 y11
   unfold leadlag_step.j1
   repeat' first
   | (with_reducible exact ih0 _ _ _ _ _ _ _ _ _ _ _)
   | (with_reducible exact ih1 _ _ _ _ _ _ _ _ _ _ _ _)
   | (with_reducible exact ih2 _ _ _ _ _ _ _ _ _)
   | (with_reducible exact ih3 _ _ _ _ _ _ _ _ _ _ _ _ _)
   | (with_reducible exact ih4 _ _ _ _ _ _ _ _ _ _)
   | (with_reducible exact leadlag_Order.mono _ _ _ _)
   | (with_reducible exact leadlag_countOn.mono _ _ _ _)
   | (with_reducible exact leadlag_countWell.mono _ _ _ _)
   | (with_reducible exact leadlag_firstOff.mono _ _ _)
   | (with_reducible exact LeO.refl _)
   | (with_reducible exact LeO.none _)
   | (with_reducible refine LeO.ite ?_ ?_)
   | (with_reducible refine LeO.bind ?_ (fun _ => ?_))
   | exact ih0 _ _ _ _ _ _ _ _ _ _ _
   | exact ih1 _ _ _ _ _ _ _ _ _ _ _ _
   | exact ih2 _ _ _ _ _ _ _ _ _
   | exact ih3 _ _ _ _ _ _ _ _ _ _ _ _ _
   | exact ih4 _ _ _ _ _ _ _ _ _ _
   | exact leadlag_Order.mono _ _ _ _
   | exact leadlag_countOn.mono _ _ _ _
   | exact leadlag_countWell.mono _ _ _ _
   | exact leadlag_firstOff.mono _ _ _
   | exact LeO.none _
   | refine LeO.ite ?_ ?_
   | refine LeO.bind ?_ (fun _ => ?_)
  ·intro y0 y1 y2 y3 y4 y5 y6 y7 y8
   unfold leadlag_step.j4
   repeat' first
   | (with_reducible exact ih0 _ _ _ _ _ _ _ _ _ _ _)
   | (with_reducible exact ih1 _ _ _ _ _ _ _ _ _ _ _ _)
   | (with_reducible exact ih2 _ _ _ _ _ _ _ _ _)
   | (with_reducible exact ih3 _ _ _ _ _ _ _ _ _ _ _ _ _)
   | (with_reducible exact ih4 _ _ _ _ _ _ _ _ _ _)
   | (with_reducible exact leadlag_Order.mono _ _ _ _)
   | (with_reducible exact leadlag_countOn.mono _ _ _ _)
   | (with_reducible exact leadlag_countWell.mono _ _ _ _)
   | (with_reducible exact leadlag_firstOff.mono _ _ _)
   | (with_reducible exact LeO.refl _)
   | (with_reducible exact LeO.none _)
   | (with_reducible refine LeO.ite ?_ ?_)
   | (with_reducible refine LeO.bind ?_ (fun _ => ?_))
   | exact ih0 _ _ _ _ _ _ _ _ _ _ _
   | exact ih1 _ _ _ _ _ _ _ _ _ _ _ _
   | exact ih2 _ _ _ _ _ _ _ _ _
   | exact ih3 _ _ _ _ _ _ _ _ _ _ _ _ _
   | exact ih4 _ _ _ _ _ _ _ _ _ _
   | exact leadlag_Order.mono _ _ _ _
   | exact leadlag_countOn.mono _ _ _ _
   | exact leadlag_countWell.mono _ _ _ _
   | exact leadlag_firstOff.mono _ _ _
   | exact LeO.none _
   | refine LeO.ite ?_ ?_
   | refine LeO.bind ?_ (fun _ => ?_)
  ·intro y0 y1 y2 y3 y4 y5 y6 y7 y8 y9 y10 y11 y12
   unfold leadlag_step.l1
   repeat' first
   | (with_reducible exact ih0 _ _ _ _ _ _ _ _ _ _ _)
   | (with_reducible exact ih1 _ _ _ _ _ _ _ _ _ _ _ _)
   | (with_reducible exact ih2 _ _ _ _ _ _ _ _ _)
   | (with_reducible exact ih3 _ _ _ _ _ _ _ _ _ _ _ _ _)
   | (with_reducible exact ih4 _ _ _ _ _ _ _ _ _ _)
   | (with_reducible exact leadlag_Order.mono _ _ _ _)
   | (with_reducible exact leadlag_countOn.mono _ _ _ _)
   | (with_reducible exact leadlag_countWell.mono _ _ _ _)
   | (with_reducible exact leadlag_firstOff.mono _ _ _)
   | (with_reducible exact LeO.refl _)
   | (with_reducible exact LeO.none _)
   | (with_reducible refine LeO.ite ?_ ?_)
   | (with_reducible refine LeO.bind ?_ (fun _ => ?_))
   | exact ih0 _ _ _ _ _ _ _ _ _ _ _
   | exact ih1 _ _ _ _ _ _ _ _ _ _ _ _
   | exact ih2 _ _ _ _ _ _ _ _ _
   | exact ih3 _ _ _ _ _ _ _ _ _ _ _ _ _
   | exact ih4 _ _ _ _ _ _ _ _ _ _
   | exact leadlag_Order.mono _ _ _ _
   | exact leadlag_countOn.mono _ _ _ _
   | exact leadlag_countWell.mono _ _ _ _
   | exact leadlag_firstOff.mono _ _ _
   | exact LeO.none _
   | refine LeO.ite ?_ ?_
   | refine LeO.bind ?_ (fun _ => ?_)
  ·intro y0 y1 y2 y3 y4 y5 y6 y7 y8 y9
   unfold leadlag_step.l2
   repeat' first
   | (with_reducible exact ih0 _ _ _ _ _ _ _ _ _ _ _)
   | (with_reducible exact ih1 _ _ _ _ _ _ _ _ _ _ _ _)
   | (with_reducible exact ih2 _ _ _ _ _ _ _ _ _)
   | (with_reducible exact ih3 _ _ _ _ _ _ _ _ _ _ _ _ _)
   | (with_reducible exact ih4 _ _ _ _ _ _ _ _ _ _)
   | (with_reducible exact leadlag_Order.mono _ _ _ _)
   | (with_reducible exact leadlag_countOn.mono _ _ _ _)
   | (with_reducible exact leadlag_countWell.mono _ _ _ _)
   | (with_reducible exact leadlag_firstOff.mono _ _ _)
   | (with_reducible exact LeO.refl _)
   | (with_reducible exact LeO.none _)
   | (with_reducible refine LeO.ite ?_ ?_)
   | (with_reducible refine LeO.bind ?_ (fun _ => ?_))
   | exact ih0 _ _ _ _ _ _ _ _ _ _ _
   | exact ih1 _ _ _ _ _ _ _ _ _ _ _ _
   | exact ih2 _ _ _ _ _ _ _ _ _
   | exact ih3 _ _ _ _ _ _ _ _ _ _ _ _ _
   | exact ih4 _ _ _ _ _ _ _ _ _ _
   | exact leadlag_Order.mono _ _ _ _
   | exact leadlag_countOn.mono _ _ _ _
   | exact leadlag_countWell.mono _ _ _ _
   | exact leadlag_firstOff.mono _ _ _
   | exact LeO.none _
   | refine LeO.ite ?_ ?_
   | refine LeO.bind ?_ (fun _ => ?_)
theorem leadlag_step.mono : ∀ a0 a1 a2 a3 a4 a5 a6 a7 k,LeO (leadlag_step.f k a0 a1 a2 a3 a4 a5 a6 a7) (leadlag_step.f (k + 1) a0 a1 a2 a3 a4 a5 a6 a7):=by
 intro a0 a1 a2 a3 a4 a5 a6 a7 k
 obtain ⟨ih0,ih1,ih2,ih3,ih4⟩:=leadlag_step.mono_l k
 unfold leadlag_step.f
 repeat' first
   | (with_reducible exact ih0 _ _ _ _ _ _ _ _ _ _ _)
   | (with_reducible exact ih1 _ _ _ _ _ _ _ _ _ _ _ _)
   | (with_reducible exact ih2 _ _ _ _ _ _ _ _ _)
   | (with_reducible exact ih3 _ _ _ _ _ _ _ _ _ _ _ _ _)
   | (with_reducible exact ih4 _ _ _ _ _ _ _ _ _ _)
   | (with_reducible exact leadlag_Order.mono _ _ _ _)
   | (with_reducible exact leadlag_countOn.mono _ _ _ _)
   | (with_reducible exact leadlag_countWell.mono _ _ _ _)
   | (with_reducible exact leadlag_firstOff.mono _ _ _)
   | (with_reducible exact LeO.refl _)
   | (with_reducible exact LeO.none _)
   | (with_reducible refine LeO.ite ?_ ?_)
   | (with_reducible refine LeO.bind ?_ (fun _ => ?_))
   | exact ih0 _ _ _ _ _ _ _ _ _ _ _
   | exact ih1 _ _ _ _ _ _ _ _ _ _ _ _
   | exact ih2 _ _ _ _ _ _ _ _ _
   | exact ih3 _ _ _ _ _ _ _ _ _ _ _ _ _
   | exact ih4 _ _ _ _ _ _ _ _ _ _
   | exact leadlag_Order.mono _ _ _ _
   | exact leadlag_countOn.mono _ _ _ _
   | exact leadlag_countWell.mono _ _ _ _
   | exact leadlag_firstOff.mono _ _ _
   | exact LeO.none _
   | refine LeO.ite ?_ ?_
   | refine LeO.bind ?_ (fun _ => ?_)
def leadlag_step.T8 : Bool × List (List Nat × List Nat):=(true,[([],[]),([],[]),([],[]),([],[]),([2,3],[2,3]),([4],[4]),([5],[5]),([6],[6]),([7],[7]),([0,1,0,1,2,3,4,5,6,7,8],[0,1]),([9,0,1,2,3,4,5,6,7,8],[9]),([10,8,0,1,2,3,4,5,6,7,8],[8,10])])
def leadlag_step.B8 : List Nat:=[0,0,0,0,12,28,60,124,252,511,1023,2047]
theorem leadlag_step.tab8 : rtab .any (opsOf Try.f42 8) = leadlag_step.T8:=by kernel_rfl
theorem leadlag_step.bits8 : waitsOk leadlag_step.T8.2 leadlag_step.B8 = true:=by kernel_rfl
def leadlag_step.T9 : Bool × List (List Nat × List Nat):=(true,[([],[]),([],[]),([],[]),([],[]),([2,3],[2,3]),([4],[4]),([0,1,0,1,2,3,4,5],[0,1]),([6,0,1,2,3,4,5],[6]),([7,5,0,1,2,3,4,5],[5,7])])
def leadlag_step.B9 : List Nat:=[0,0,0,0,12,28,63,127,255]
theorem leadlag_step.tab9 : rtab .any (opsOf Try.f42 9) = leadlag_step.T9:=by kernel_rfl
theorem leadlag_step.bits9 : waitsOk leadlag_step.T9.2 leadlag_step.B9 = true:=by kernel_rfl
def leadlag_step.T10 : Bool × List (List Nat × List Nat):=(true,[([],[]),([],[]),([],[]),([],[]),([2,3],[2,3]),([4],[4]),([5],[5]),([6],[6]),([7],[7]),([7],[7]),([8,9,7],[7,8,9]),([10,7],[7,10]),([11,7],[7,11]),([7,12],[7,12]),([0,1,0,1,2,3,4,5,6,7,8,9,10,11,12,13],[0,1]),([14,0,1,2,3,4,5,6,7,8,9,10,11,12,13],[14]),([15,13,7,0,1,2,3,4,5,6,7,8,9,10,11,12,13],[13,15])])
def leadlag_step.B10 : List Nat:=[0,0,0,0,12,28,60,124,252,252,1020,2044,4092,8188,16383,32767,65535]
theorem leadlag_step.tab10 : rtab .any (opsOf Try.f42 10) = leadlag_step.T10:=by kernel_rfl
theorem leadlag_step.bits10 : waitsOk leadlag_step.T10.2 leadlag_step.B10 = true:=by kernel_rfl
def leadlag_step.T25 : Bool × List (List Nat × List Nat):=(true,[([],[]),([],[]),([],[]),([1,2],[1,2]),([3],[3]),([0,4,0,1,2,3,4],[0,4]),([5,0,1,2,3,4],[5]),([6,0,1,2,3,4],[6])])
def leadlag_step.B25 : List Nat:=[0,0,0,6,14,31,63,127]
theorem leadlag_step.tab25 : rtab .any (opsOf Try.f42 25) = leadlag_step.T25:=by kernel_rfl
theorem leadlag_step.bits25 : waitsOk leadlag_step.T25.2 leadlag_step.B25 = true:=by kernel_rfl
def leadlag_step.T28 : Bool × List (List Nat × List Nat):=(true,[([],[]),([],[]),([],[]),([1,2],[1,2]),([3],[3]),([0,4,0,1,2,3,4],[0,4]),([5,0,1,2,3,4],[5]),([6,0,1,2,3,4],[6])])
def leadlag_step.B28 : List Nat:=[0,0,0,6,14,31,63,127]
theorem leadlag_step.tab28 : rtab .any (opsOf Try.f42 28) = leadlag_step.T28:=by kernel_rfl
theorem leadlag_step.bits28 : waitsOk leadlag_step.T28.2 leadlag_step.B28 = true:=by kernel_rfl
set_option maxHeartbeats 8000000 in
set_option maxRecDepth 100000 in
theorem leadlag_step.calls (k : Nat) (a0_0 : Int) (a0_1 : Int) (A1_0 : Option Addr) (c1_0 : Nat) (l1_0 : List (S62)) (a1_1 : Int) (a1_2 : Int) (a2 : Int) (A3 : Option Addr) (c3 : Nat) (l3 : List Bool) (a4 : Int) (r1 : List (S62)) (r2 : Int) (r3 : Int) (w : World) (hr1_0 : Kd.C k62 w A1_0 l1_0.length l1_0) (hc1_0 : l1_0.length ≤ c1_0) (hr3 : Kd.C Kd.bool w A3 l3.length l3) (hc3 : l3.length ≤ c3) (h : leadlag_step.f k a0_0 a0_1 l1_0 a1_1 a1_2 a2 l3 a4 = some (r1,r2,r3)) :
  Calls Try.prog 42 #[.agg #[.int .i64 a0_0,.int .i64 a0_1],.agg #[.slice A1_0 l1_0.length c1_0,.int .i64 a1_1,.int .i64 a1_2],.int .i64 a2,.slice A3 l3.length c3,.int .i64 a4] w fun e w' => ∃ v0_ : Value,e = .returned (.agg #[v0_,.int .i64 r2,.int .i64 r3])∧Kd.R k62 62 w' w.heap.size (fun _ => True) v0_ r1∧Below w.heap.size w w':=by
 have hu43:=Try.underlying43
 have hu32:=Try.underlying32
 have HR1_0:=Aside0.mk hr1_0
 have HC1_0:=Aside0.mk hc1_0
 clear hr1_0 hc1_0
 have HR3:=Aside0.mk hr3
 have HC3:=Aside0.mk hc3
 clear hr3 hc3
 have HB:=Aside0.mk (Below.refl w.heap.size w)
 have H : (if 0 ≤ (l1_0.length : Int) then (if ((l1_0.length : Int) : Int).toNat ≤ 17592186044416 then ((some (List.replicate ((l1_0.length : Int) : Int).toNat z62 : List (S62))).bind fun y146 => ((leadlag_copyUnits.f y146 l1_0).bind fun t150 => (leadlag_step.l0 k a2 l3 a4 (y146.length : Int) 0 a0_0 a0_1 l1_0 a1_1 a1_2 t150))) else (none)) else (none)) = some (r1,r2,r3):=h
 clear h
 by_cases c6 : 0 ≤ (l1_0.length : Int)
 rotate_left
 ·rw [if_neg c6] at H
  exact absurd H (by simp)

 rw [if_pos c6] at H
 have c6b0:=eq_true c6
 have c6b1 : decide (0 ≤ (l1_0.length : Int)) = true:=decide_eq_true c6
 clear c6
 by_cases c7 : ((l1_0.length : Int) : Int).toNat ≤ 17592186044416
 rotate_left
 ·rw [if_neg c7] at H
  exact absurd H (by simp)
 rw [if_pos c7] at H
 have c7b0:=eq_true c7
 have c7b1 : decide (((l1_0.length : Int) : Int).toNat ≤ 17592186044416) = true:=decide_eq_true c7
 clear c7
 obtain ⟨y146,hy146⟩ : ∃ y_ : List (S62),y_ = (List.replicate ((l1_0.length : Int) : Int).toNat z62):=⟨_,rfl⟩
 replace H : ((leadlag_copyUnits.f y146 l1_0).bind fun t150 => (leadlag_step.l0 k a2 l3 a4 (y146.length : Int) 0 a0_0 a0_1 l1_0 a1_1 a1_2 t150)) = some (r1,r2,r3):=by first|(rw [hy146];with_reducible exact H)|(have H2_:=(Option.bind_some _ _).symm.trans H;rw [hy146];with_reducible exact H2_)|(have H2_:=(Option.bind_some _ _).symm.trans H;with_reducible exact H2_)|with_reducible exact H|(rw [hy146];exact H)|exact H
 have Ny146:=Aside0.mk hy146
 clear hy146
 replace H:=Option.bind_eq_some_iff.mp H
 obtain ⟨t150,A80,H⟩:=H
 replace H : (leadlag_step.l0 k a2 l3 a4 (y146.length : Int) 0 a0_0 a0_1 l1_0 a1_1 a1_2 t150) = some (r1,r2,r3):=H
 have A8:=Aside0.mk A80
 clear A80
 have H':=Aside0.mk H
 clear H
 go_enter Try.func42,Try.ntmps42
 go_wp2_with (first|((with_reducible refine gate_dst (N:=5) rfl ?_);refine box_event ?hg (N:=5) ?hd (cs:=#[.int .i64 a0_0,.int .i64 a0_1]) (t:=43) ?hr ?_;(case hd => rfl);(case hg => rfl);(case hr => first|(go_simp;done)|(go_simp;rfl));intro gb143 hg w9 hbox hb;have n0_:=Aside0.mk (below_step (by repeat (first|(with_reducible first|exact HB.out|apply below_alloc|apply pw_below_drewN|apply below_drew1)|exact HB.out)) hb);have n1_:=Aside0.mk (hbox);have n2_:=Aside0.mk ((by rw [hg];exact (below_size (by repeat (first|(with_reducible first|exact HB.out|apply below_alloc|apply pw_below_drewN|apply below_drew1)|exact HB.out))) : w.heap.size ≤ gb143));have n3_:=Aside0.mk ((by rw [hg];exact (below_size (by repeat (first|(with_reducible first|exact HB.out|apply below_alloc|apply pw_below_drewN|apply below_drew1)|exact HB.out))) : w.heap.size ≤ gb143));clear HB;have HB:=n0_;have BK143:=n1_;have GW143:=n2_;have GE143:=n3_;clear n0_ n1_ n2_ n3_;clear hb hbox hg)|((with_reducible refine gate_dst (N:=6) rfl ?_);refine box_event ?hg (N:=6) ?hd (cs:=#[.slice A1_0 l1_0.length c1_0,.int .i64 a1_1,.int .i64 a1_2]) (t:=32) ?hr ?_;(case hd => rfl);(case hg => rfl);(case hr => first|(go_simp;done)|(go_simp;rfl));intro gb144 hg w10 hbox hb;have n0_:=Aside0.mk (blk_below (g:=gb143) (o:=.cells #[.int .i64 a0_0,.int .i64 a0_1] 43 (0,0)) (by (with_reducible repeat (first|refine blk_drewN ?_ _|refine blk_drew ?_|refine blk_alloc ?_ _));exact BK143.out) hb);have n1_:=Aside0.mk (below_step (by repeat (first|(with_reducible first|exact HB.out|apply below_alloc|apply pw_below_drewN|apply below_drew1|refine below_set ?_ GE143.out)|exact HB.out)) hb);have n2_:=Aside0.mk (hbox);have n3_:=Aside0.mk ((by rw [hg];exact (below_size (by repeat (first|(with_reducible first|exact HB.out|apply below_alloc|apply pw_below_drewN|apply below_drew1|refine below_set ?_ GE143.out)|exact HB.out))) : w.heap.size ≤ gb144));have n4_:=Aside0.mk ((by rw [hg];exact (below_size (by repeat (first|(with_reducible first|exact HB.out|apply below_alloc|apply pw_below_drewN|apply below_drew1|refine below_set ?_ GE143.out)|exact HB.out))) : w.heap.size ≤ gb144));have n5_:=Aside0.mk ((by rw [hg];exact Nat.ne_of_lt (blk_lt (g:=gb143) (o:=.cells #[.int .i64 a0_0,.int .i64 a0_1] 43 (0,0)) (by (with_reducible repeat (first|refine blk_drewN ?_ _|refine blk_drew ?_|refine blk_alloc ?_ _));exact BK143.out)) : gb143 ≠ gb144));have n6_:=Aside0.mk ((by rw [hg];exact Nat.ne_of_gt (blk_lt (g:=gb143) (o:=.cells #[.int .i64 a0_0,.int .i64 a0_1] 43 (0,0)) (by (with_reducible repeat (first|refine blk_drewN ?_ _|refine blk_drew ?_|refine blk_alloc ?_ _));exact BK143.out)) : gb144 ≠ gb143));clear BK143;clear HB;have BK143:=n0_;have HB:=n1_;have BK144:=n2_;have GW144:=n3_;have GE144:=n4_;have NB143_144:=n5_;have NB144_143:=n6_;clear n0_ n1_ n2_ n3_ n4_ n5_ n6_;clear hb hbox hg)|((with_reducible refine gate_dst (N:=10) rfl ?_);refine box_event ?hg (N:=10) ?hd (cs:=#[.slice none 0 0,.int .i64 0,.int .i64 0]) (t:=32) ?hr ?_;(case hd => rfl);(case hg => rfl);(case hr => first|(go_simp;done)|(go_simp;rfl));intro gb145 hg w11 hbox hb;have n0_:=Aside0.mk (blk_below (g:=gb143) (o:=.cells #[.int .i64 a0_0,.int .i64 a0_1] 43 (0,0)) (by (with_reducible repeat (first|refine blk_drewN ?_ _|refine blk_drew ?_|refine blk_alloc ?_ _));exact BK143.out) hb);have n1_:=Aside0.mk (blk_below (g:=gb144) (o:=.cells #[.slice A1_0 l1_0.length c1_0,.int .i64 a1_1,.int .i64 a1_2] 32 (0,0)) (by (with_reducible repeat (first|refine blk_drewN ?_ _|refine blk_drew ?_|refine blk_alloc ?_ _));exact BK144.out) hb);have n2_:=Aside0.mk (below_step (by repeat (first|(with_reducible first|exact HB.out|apply below_alloc|apply pw_below_drewN|apply below_drew1|refine below_set ?_ GE143.out|refine below_set ?_ GE144.out)|exact HB.out)) hb);have n3_:=Aside0.mk (hbox);have n4_:=Aside0.mk ((by rw [hg];exact (below_size (by repeat (first|(with_reducible first|exact HB.out|apply below_alloc|apply pw_below_drewN|apply below_drew1|refine below_set ?_ GE143.out|refine below_set ?_ GE144.out)|exact HB.out))) : w.heap.size ≤ gb145));have n5_:=Aside0.mk ((by rw [hg];exact (below_size (by repeat (first|(with_reducible first|exact HB.out|apply below_alloc|apply pw_below_drewN|apply below_drew1|refine below_set ?_ GE143.out|refine below_set ?_ GE144.out)|exact HB.out))) : w.heap.size ≤ gb145));have n6_:=Aside0.mk ((by rw [hg];exact Nat.ne_of_lt (blk_lt (g:=gb143) (o:=.cells #[.int .i64 a0_0,.int .i64 a0_1] 43 (0,0)) (by (with_reducible repeat (first|refine blk_drewN ?_ _|refine blk_drew ?_|refine blk_alloc ?_ _));exact BK143.out)) : gb143 ≠ gb145));have n7_:=Aside0.mk ((by rw [hg];exact Nat.ne_of_gt (blk_lt (g:=gb143) (o:=.cells #[.int .i64 a0_0,.int .i64 a0_1] 43 (0,0)) (by (with_reducible repeat (first|refine blk_drewN ?_ _|refine blk_drew ?_|refine blk_alloc ?_ _));exact BK143.out)) : gb145 ≠ gb143));have n8_:=Aside0.mk ((by rw [hg];exact Nat.ne_of_lt (blk_lt (g:=gb144) (o:=.cells #[.slice A1_0 l1_0.length c1_0,.int .i64 a1_1,.int .i64 a1_2] 32 (0,0)) (by (with_reducible repeat (first|refine blk_drewN ?_ _|refine blk_drew ?_|refine blk_alloc ?_ _));exact BK144.out)) : gb144 ≠ gb145));have n9_:=Aside0.mk ((by rw [hg];exact Nat.ne_of_gt (blk_lt (g:=gb144) (o:=.cells #[.slice A1_0 l1_0.length c1_0,.int .i64 a1_1,.int .i64 a1_2] 32 (0,0)) (by (with_reducible repeat (first|refine blk_drewN ?_ _|refine blk_drew ?_|refine blk_alloc ?_ _));exact BK144.out)) : gb145 ≠ gb144));clear BK143;clear BK144;clear HB;have BK143:=n0_;have BK144:=n1_;have HB:=n2_;have BK145:=n3_;have GW145:=n4_;have GE145:=n5_;have NB143_145:=n6_;have NB145_143:=n7_;have NB144_145:=n8_;have NB145_144:=n9_;clear n0_ n1_ n2_ n3_ n4_ n5_ n6_ n7_ n8_ n9_;clear hb hbox hg;have hnb12:=NB144_143.out;have hnc12:=NB143_144.out;have hnb13:=NB144_145.out;have hnc13:=NB145_144.out;have hcz14_0 : w11.cell? ⟨gb144,0,none⟩ = some (.slice A1_0 l1_0.length c1_0):=(blk_cell BK144.out 0).trans rfl;have hcz14_1 : w11.cell? ⟨gb144,1,none⟩ = some (.int .i64 a1_1):=(blk_cell BK144.out 1).trans rfl;have hcz14_2 : w11.cell? ⟨gb144,2,none⟩ = some (.int .i64 a1_2):=(blk_cell BK144.out 2).trans rfl;have hfz14_0:=blk_frozen BK144.out 0;have hfz14_1:=blk_frozen BK144.out 1;have hfz14_2:=blk_frozen BK144.out 2)|((with_reducible refine gate_dst (N:=23) rfl ?_);refine Kd.R_make k62 _ 62 rfl (N:=23) rfl 30 _ _ rfl (l1_0.length : Int) rfl rfl Try.underlying30 (.agg #[(.int .i64 0),(.bool false),(.bool false)]) 16 info62 rfl (by decide) (by omega) z62 (ok:=fun _ => True) (okp:=fun _ => True) (k62_mkM _ _ _ z62 ) (fun _ hk => hk) trivial (of_decide_eq_true (by first|(with_reducible assumption)|assumption)) (Nat.le_trans (Nat.mul_le_mul_right _ (of_decide_eq_true (by first|(with_reducible assumption)|assumption) : (l1_0.length : Int).toNat ≤ 17592186044416)) (by omega)) (Below.refl _ _) (Nat.le_refl _) ?_;intro v147 w15 ho16 hb hg_ hnew_;clear hg_ hnew_;(first|rw [← Ny146.out] at ho16|(simp only [Int.reduceToNat] at ho16;rw [← Ny146.out] at ho16));have n0_:=Aside0.mk (Kd.R_lower ho16 (below_size (by repeat (first|(with_reducible first|exact HB.out|apply below_alloc|apply pw_below_drewN|apply below_drew1|refine below_set ?_ GE143.out|refine below_set ?_ GE144.out|refine below_set ?_ GE145.out)|exact HB.out))));have n1_:=Aside0.mk (blk_below (g:=gb143) (o:=.cells #[.int .i64 a0_0,.int .i64 a0_1] 43 (0,0)) (by (with_reducible repeat (first|refine blk_drewN ?_ _|refine blk_drew ?_|refine blk_alloc ?_ _));exact BK143.out) hb);have n2_:=Aside0.mk (blk_below (g:=gb144) (o:=.cells #[.slice A1_0 l1_0.length c1_0,.int .i64 a1_1,.int .i64 a1_2] 32 (0,0)) (by (with_reducible repeat (first|refine blk_drewN ?_ _|refine blk_drew ?_|refine blk_alloc ?_ _));exact BK144.out) hb);have n3_:=Aside0.mk (blk_below (g:=gb145) (o:=.cells #[.slice none 0 0,.int .i64 0,.int .i64 0] 32 (0,0)) (by (with_reducible repeat (first|refine blk_drewN ?_ _|refine blk_drew ?_|refine blk_alloc ?_ _));exact BK145.out) hb);have n4_:=Aside0.mk (below_step (by repeat (first|(with_reducible first|exact HB.out|apply below_alloc|apply pw_below_drewN|apply below_drew1|refine below_set ?_ GE143.out|refine below_set ?_ GE144.out|refine below_set ?_ GE145.out)|exact HB.out)) hb);clear BK143;clear BK144;clear BK145;clear HB;have HO148:=n0_;have BK143:=n1_;have BK144:=n2_;have BK145:=n3_;have HB:=n4_;clear n0_ n1_ n2_ n3_ n4_;clear hb ho16)|((with_reducible refine gate_dst (N:=11) rfl ?_);refine box_event ?hg (N:=11) ?hd (cs:=#[.slice none 0 0]) (t:=30) ?hr ?_;(case hd => rfl);(case hg => rfl);(case hr => first|(go_simp;done)|(go_simp;rfl));intro gb149 hg w17 hbox hb;have n0_:=Aside0.mk (Kd.R_below (by (with_reducible repeat (first|apply Kd.R_alloc|apply Kd.R_drewN|apply Kd.R_drew));exact HO148.out) hb);have n1_:=Aside0.mk (blk_below (g:=gb143) (o:=.cells #[.int .i64 a0_0,.int .i64 a0_1] 43 (0,0)) (by (with_reducible repeat (first|refine blk_drewN ?_ _|refine blk_drew ?_|refine blk_alloc ?_ _));exact BK143.out) hb);have n2_:=Aside0.mk (blk_below (g:=gb144) (o:=.cells #[.slice A1_0 l1_0.length c1_0,.int .i64 a1_1,.int .i64 a1_2] 32 (0,0)) (by (with_reducible repeat (first|refine blk_drewN ?_ _|refine blk_drew ?_|refine blk_alloc ?_ _));exact BK144.out) hb);have n3_:=Aside0.mk (blk_below (g:=gb145) (o:=.cells #[.slice none 0 0,.int .i64 0,.int .i64 0] 32 (0,0)) (by (with_reducible repeat (first|refine blk_drewN ?_ _|refine blk_drew ?_|refine blk_alloc ?_ _));exact BK145.out) hb);have n4_:=Aside0.mk (below_step (by repeat (first|(with_reducible first|exact HB.out|apply below_alloc|apply pw_below_drewN|apply below_drew1|refine below_set ?_ GE143.out|refine below_set ?_ GE144.out|refine below_set ?_ GE145.out)|exact HB.out)) hb);have n5_:=Aside0.mk (hbox);have n6_:=Aside0.mk ((by rw [hg];exact (below_size (by repeat (first|(with_reducible first|exact HB.out|apply below_alloc|apply pw_below_drewN|apply below_drew1|refine below_set ?_ GE143.out|refine below_set ?_ GE144.out|refine below_set ?_ GE145.out)|exact HB.out))) : w.heap.size ≤ gb149));have n7_:=Aside0.mk ((by rw [hg];exact (below_size (by repeat (first|(with_reducible first|exact HB.out|apply below_alloc|apply pw_below_drewN|apply below_drew1|refine below_set ?_ GE143.out|refine below_set ?_ GE144.out|refine below_set ?_ GE145.out)|exact HB.out))) : w.heap.size ≤ gb149));have n8_:=Aside0.mk ((by rw [hg];exact Nat.ne_of_lt (blk_lt (g:=gb143) (o:=.cells #[.int .i64 a0_0,.int .i64 a0_1] 43 (0,0)) (by (with_reducible repeat (first|refine blk_drewN ?_ _|refine blk_drew ?_|refine blk_alloc ?_ _));exact BK143.out)) : gb143 ≠ gb149));have n9_:=Aside0.mk ((by rw [hg];exact Nat.ne_of_gt (blk_lt (g:=gb143) (o:=.cells #[.int .i64 a0_0,.int .i64 a0_1] 43 (0,0)) (by (with_reducible repeat (first|refine blk_drewN ?_ _|refine blk_drew ?_|refine blk_alloc ?_ _));exact BK143.out)) : gb149 ≠ gb143));have n10_:=Aside0.mk ((by rw [hg];exact Nat.ne_of_lt (blk_lt (g:=gb144) (o:=.cells #[.slice A1_0 l1_0.length c1_0,.int .i64 a1_1,.int .i64 a1_2] 32 (0,0)) (by (with_reducible repeat (first|refine blk_drewN ?_ _|refine blk_drew ?_|refine blk_alloc ?_ _));exact BK144.out)) : gb144 ≠ gb149));have n11_:=Aside0.mk ((by rw [hg];exact Nat.ne_of_gt (blk_lt (g:=gb144) (o:=.cells #[.slice A1_0 l1_0.length c1_0,.int .i64 a1_1,.int .i64 a1_2] 32 (0,0)) (by (with_reducible repeat (first|refine blk_drewN ?_ _|refine blk_drew ?_|refine blk_alloc ?_ _));exact BK144.out)) : gb149 ≠ gb144));have n12_:=Aside0.mk ((by rw [hg];exact Nat.ne_of_lt (blk_lt (g:=gb145) (o:=.cells #[.slice none 0 0,.int .i64 0,.int .i64 0] 32 (0,0)) (by (with_reducible repeat (first|refine blk_drewN ?_ _|refine blk_drew ?_|refine blk_alloc ?_ _));exact BK145.out)) : gb145 ≠ gb149));have n13_:=Aside0.mk ((by rw [hg];exact Nat.ne_of_gt (blk_lt (g:=gb145) (o:=.cells #[.slice none 0 0,.int .i64 0,.int .i64 0] 32 (0,0)) (by (with_reducible repeat (first|refine blk_drewN ?_ _|refine blk_drew ?_|refine blk_alloc ?_ _));exact BK145.out)) : gb149 ≠ gb145));clear HO148;clear BK143;clear BK144;clear BK145;clear HB;have HO148:=n0_;have BK143:=n1_;have BK144:=n2_;have BK145:=n3_;have HB:=n4_;have BK149:=n5_;have GW149:=n6_;have GE149:=n7_;have NB143_149:=n8_;have NB149_143:=n9_;have NB144_149:=n10_;have NB149_144:=n11_;have NB145_149:=n12_;have NB149_145:=n13_;clear n0_ n1_ n2_ n3_ n4_ n5_ n6_ n7_ n8_ n9_ n10_ n11_ n12_ n13_;clear hb hbox hg;obtain ⟨Ao18,co18,eo18⟩:=Kd.R_slice HO148.out;subst eo18;have hnb19:=NB149_143.out;have hnc19:=NB143_149.out;have hnb20:=NB149_144.out;have hnc20:=NB144_149.out;have hnb21:=NB149_145.out;have hnc21:=NB145_149.out;have hcz22_0 : w17.cell? ⟨gb149,0,none⟩ = some (.slice none 0 0):=(blk_cell BK149.out 0).trans rfl;have hfz22_0:=blk_frozen BK149.out 0)|((with_reducible refine gate_store (t:=30) (p:=11) rfl ?_);refine store_event (t:=30) (p:=11) (v:=?vo_w23) (w1:=(w17.setCell ⟨gb149,0,none⟩ (.slice Ao18 y146.length co18))) ?hg ?ho ?hn ?hr ?_;(case ho => rfl);(case hg => rfl);(case hn => rfl);(case hr => first|(go_simp;done)|(go_simp;rfl));intro w23 hw;have n0_ : Aside0 (Kd.R k62 62 w23 w.heap.size (fun _ => True) (.slice Ao18 y146.length co18) y146):=⟨(by rw [hw];exact (by (with_reducible repeat (first|apply Kd.R_alloc|apply Kd.R_drewN|apply Kd.R_drew));exact Kd.R_mono (Kd.R_far (p:=⟨gb149,0,none⟩) (Kd.R_types HO148.out BK149.out (by decide)) (fun _ hk => hk.2) (.slice Ao18 y146.length co18)) (fun _ hk => trivial)))⟩;have n1_ : Aside0 (w23.heap[gb143]? = some (.cells #[.int .i64 a0_0,.int .i64 a0_1] 43 (0,0))):=⟨(by rw [hw];exact (by (with_reducible repeat (first|refine blk_drewN ?_ _|refine blk_drew ?_|refine blk_alloc ?_ _));refine blk_far ?_ NB143_149.out _;(with_reducible repeat (first|refine blk_drewN ?_ _|refine blk_drew ?_|refine blk_alloc ?_ _));exact BK143.out))⟩;have n2_ : Aside0 (w23.heap[gb144]? = some (.cells #[.slice A1_0 l1_0.length c1_0,.int .i64 a1_1,.int .i64 a1_2] 32 (0,0))):=⟨(by rw [hw];exact (by (with_reducible repeat (first|refine blk_drewN ?_ _|refine blk_drew ?_|refine blk_alloc ?_ _));refine blk_far ?_ NB144_149.out _;(with_reducible repeat (first|refine blk_drewN ?_ _|refine blk_drew ?_|refine blk_alloc ?_ _));exact BK144.out))⟩;have n3_ : Aside0 (w23.heap[gb145]? = some (.cells #[.slice none 0 0,.int .i64 0,.int .i64 0] 32 (0,0))):=⟨(by rw [hw];exact (by (with_reducible repeat (first|refine blk_drewN ?_ _|refine blk_drew ?_|refine blk_alloc ?_ _));refine blk_far ?_ NB145_149.out _;(with_reducible repeat (first|refine blk_drewN ?_ _|refine blk_drew ?_|refine blk_alloc ?_ _));exact BK145.out))⟩;have n4_ : Aside0 (w23.heap[gb149]? = some (.cells #[.slice Ao18 y146.length co18] 30 (0,0))):=⟨(by rw [hw];exact (by (with_reducible repeat (first|refine blk_drewN ?_ _|refine blk_drew ?_|refine blk_alloc ?_ _));refine blk_put (cs:=#[.slice none 0 0]) ?_ 0 _ rfl;(with_reducible repeat (first|refine blk_drewN ?_ _|refine blk_drew ?_|refine blk_alloc ?_ _));exact BK149.out))⟩;have n5_ : Aside0 (Below w.heap.size w w23):=⟨(by rw [hw];exact (by repeat (first|(with_reducible first|exact HB.out|apply below_alloc|apply pw_below_drewN|apply below_drew1|refine below_set ?_ GE143.out|refine below_set ?_ GE144.out|refine below_set ?_ GE145.out|refine below_set ?_ GE149.out)|exact HB.out)))⟩;clear hw;clear HO148;clear BK143;clear BK144;clear BK145;clear BK149;clear HB;have HO148:=n0_;have BK143:=n1_;have BK144:=n2_;have BK145:=n3_;have BK149:=n4_;have HB:=n5_;clear n0_ n1_ n2_ n3_ n4_ n5_;have hcz24_0 : w23.cell? ⟨gb149,0,none⟩ = some (.slice Ao18 y146.length co18):=(blk_cell BK149.out 0).trans rfl;have hfz24_0:=blk_frozen BK149.out 0;have hcz25_0 : w23.cell? ⟨gb144,0,none⟩ = some (.slice A1_0 l1_0.length c1_0):=(blk_cell BK144.out 0).trans rfl;have hcz25_1 : w23.cell? ⟨gb144,1,none⟩ = some (.int .i64 a1_1):=(blk_cell BK144.out 1).trans rfl;have hcz25_2 : w23.cell? ⟨gb144,2,none⟩ = some (.int .i64 a1_2):=(blk_cell BK144.out 2).trans rfl;have hfz25_0:=blk_frozen BK144.out 0;have hfz25_1:=blk_frozen BK144.out 1;have hfz25_2:=blk_frozen BK144.out 2)|((with_reducible refine gate_dst (N:=27) rfl ?_);refine leadlag_copyUnits.event (w0:=w) (A:=Ao18) (n:=y146.length) (cap:=co18) (xs:=y146) (A1:=A1_0) (l1:=l1_0) (c1:=c1_0) 27 rfl rfl (.tmp 24) (.tmp 26) rfl rfl rfl ?side1 ?side2 ?side3 ?side4 ?_;(case side1 => repeat (first|(with_reducible first|exact HB.out|apply below_alloc|apply pw_below_drewN|apply below_drew1|refine below_set ?_ GE143.out|refine below_set ?_ GE144.out|refine below_set ?_ GE145.out|refine below_set ?_ GE149.out)|exact HB.out));(case side2 => exact Kd.R_tight rfl HO148.out);(case side3 => exact Kd.C_kept_came (S:=fun _ => False) k62_heap HR1_0.out (by repeat (first|(with_reducible first|exact HB.out|apply below_alloc|apply pw_below_drewN|apply below_drew1|refine below_set ?_ GE143.out|refine below_set ?_ GE144.out|refine below_set ?_ GE145.out|refine below_set ?_ GE149.out)|exact HB.out)) (fun _ h_ => h_.elim) _ (Kept.refl _ _));(case side4 => exact (leadlag_copyUnits.inv A8.out).1);intro w26 hy0 hb hkp;rw [← (leadlag_copyUnits.inv A8.out).2] at hy0;have n0_:=Aside0.mk (blk_kept (by (with_reducible repeat (first|refine blk_drewN ?_ _|refine blk_drew ?_|refine blk_alloc ?_ _));exact BK143.out) hkp (fun hs_ => (fun e_ => (Kd.R_ne HO148.out BK143.out (by decide)) e_) hs_));have n1_:=Aside0.mk (blk_kept (by (with_reducible repeat (first|refine blk_drewN ?_ _|refine blk_drew ?_|refine blk_alloc ?_ _));exact BK144.out) hkp (fun hs_ => (fun e_ => (Kd.R_ne HO148.out BK144.out (by decide)) e_) hs_));have n2_:=Aside0.mk (blk_kept (by (with_reducible repeat (first|refine blk_drewN ?_ _|refine blk_drew ?_|refine blk_alloc ?_ _));exact BK145.out) hkp (fun hs_ => (fun e_ => (Kd.R_ne HO148.out BK145.out (by decide)) e_) hs_));have n3_:=Aside0.mk (Kd.R_reok rfl hy0 (fun k_ e_ => HO148.out.1 k_ e_));have n4_:=Aside0.mk (blk_kept (by (with_reducible repeat (first|refine blk_drewN ?_ _|refine blk_drew ?_|refine blk_alloc ?_ _));exact BK149.out) hkp (fun hs_ => (fun e_ => (Kd.R_ne HO148.out BK149.out (by decide)) e_) hs_));have n5_:=Aside0.mk (hb);clear BK143;clear BK144;clear BK145;clear HO148;clear BK149;clear HB;have BK143:=n0_;have BK144:=n1_;have BK145:=n2_;have HO148:=n3_;have BK149:=n4_;have HB:=n5_;clear n0_ n1_ n2_ n3_ n4_ n5_;(try clear hb);(try clear hkp);(try clear hy0);have hcz27_0 : w26.cell? ⟨gb149,0,none⟩ = some (.slice Ao18 y146.length co18):=(blk_cell BK149.out 0).trans rfl;have hfz27_0:=blk_frozen BK149.out 0;have hcz28_0 : w26.cell? ⟨gb144,0,none⟩ = some (.slice A1_0 l1_0.length c1_0):=(blk_cell BK144.out 0).trans rfl;have hcz28_1 : w26.cell? ⟨gb144,1,none⟩ = some (.int .i64 a1_1):=(blk_cell BK144.out 1).trans rfl;have hcz28_2 : w26.cell? ⟨gb144,2,none⟩ = some (.int .i64 a1_2):=(blk_cell BK144.out 2).trans rfl;have hfz28_0:=blk_frozen BK144.out 0;have hfz28_1:=blk_frozen BK144.out 1;have hfz28_2:=blk_frozen BK144.out 2))
 go_loopg [32] k (fun kq v32 w' => ∃ (x32_1 : Int) (x150000_1 : List (S62)) (u150000 : Value),v32 = .int .i64 x32_1∧Aside0 (leadlag_step.l0 kq a2 l3 a4 (y146.length : Int) x32_1 a0_0 a0_1 l1_0 a1_1 a1_2 x150000_1 = some (r1,r2,r3))∧Aside0 (kq ≤ k)∧Aside0 (Kd.R k62 62 w' w.heap.size (fun _ => True) u150000 x150000_1)∧Aside0 (w'.heap[gb143]? = some (.cells #[.int .i64 a0_0,.int .i64 a0_1] 43 (0,0)))∧Aside0 (w'.heap[gb144]? = some (.cells #[u150000,.int .i64 a1_1,.int .i64 a1_2] 32 (0,0)))∧Aside0 (w'.heap[gb145]? = some (.cells #[(.slice none 0 0),.int .i64 0,.int .i64 0] 32 (0,0)))∧Aside0 (w'.heap[gb149]? = some (.cells #[u150000] 30 (0,0)))∧Aside0 (Below w.heap.size w w'))
 case atStart => exact ⟨(0),(t150),(.slice Ao18 y146.length co18),(by first|rfl|(simp;done)|(simp [*];done)),H',⟨Nat.le_refl _⟩,⟨by (with_reducible repeat (first|apply Kd.R_alloc|apply Kd.R_drewN|apply Kd.R_drew));exact Kd.R_mono (Kd.R_far (p:=⟨gb144,0,none⟩) (Kd.R_types HO148.out BK144.out (by decide)) (fun _ hk => hk.2) (.slice Ao18 y146.length co18)) (fun _ hk => trivial)⟩,⟨by (with_reducible repeat (first|refine blk_drewN ?_ _|refine blk_drew ?_|refine blk_alloc ?_ _));refine blk_far ?_ NB143_144.out _;(with_reducible repeat (first|refine blk_drewN ?_ _|refine blk_drew ?_|refine blk_alloc ?_ _));exact BK143.out⟩,⟨by (with_reducible repeat (first|refine blk_drewN ?_ _|refine blk_drew ?_|refine blk_alloc ?_ _));refine blk_put (cs:=#[.slice A1_0 l1_0.length c1_0,.int .i64 a1_1,.int .i64 a1_2]) ?_ 0 _ rfl;(with_reducible repeat (first|refine blk_drewN ?_ _|refine blk_drew ?_|refine blk_alloc ?_ _));exact BK144.out⟩,⟨by (with_reducible repeat (first|refine blk_drewN ?_ _|refine blk_drew ?_|refine blk_alloc ?_ _));refine blk_far ?_ NB145_144.out _;(with_reducible repeat (first|refine blk_drewN ?_ _|refine blk_drew ?_|refine blk_alloc ?_ _));exact BK145.out⟩,⟨by (with_reducible repeat (first|refine blk_drewN ?_ _|refine blk_drew ?_|refine blk_alloc ?_ _));refine blk_far ?_ NB149_144.out _;(with_reducible repeat (first|refine blk_drewN ?_ _|refine blk_drew ?_|refine blk_alloc ?_ _));exact BK149.out⟩,⟨by repeat (first|(with_reducible first|exact HB.out|apply below_alloc|apply pw_below_drewN|apply below_drew1|refine below_set ?_ GE143.out|refine below_set ?_ GE144.out|refine below_set ?_ GE145.out|refine below_set ?_ GE149.out)|exact HB.out)⟩⟩
 case round =>
  clear H'
  (try clear c1);(try clear c2);(try clear p2);(try clear c3);(try clear c4);(try clear c6);(try clear c6b0);(try clear c6b1);(try clear c7);(try clear c7b0);(try clear c7b1);(try clear c12);(try clear c13);(try clear c19);(try clear c20);(try clear c21);(try clear hcz14_0);(try clear hcz14_1);(try clear hcz14_2);(try clear hcz22_0);(try clear hcz24_0);(try clear hcz25_0);(try clear hcz25_1);(try clear hcz25_2);(try clear hcz27_0);(try clear hcz28_0);(try clear hcz28_1);(try clear hcz28_2);(try clear hfz14_0);(try clear hfz14_1);(try clear hfz14_2);(try clear hfz22_0);(try clear hfz24_0);(try clear hfz25_0);(try clear hfz25_1);(try clear hfz25_2);(try clear hfz27_0);(try clear hfz28_0);(try clear hfz28_1);(try clear hfz28_2)
  obtain ⟨x32_1,x150000_1,u150000,rfl,HA,HK1,HO_150000,BK143,BK144,BK145,BK149,HB⟩:=hrel
  cases gk with
  | zero => exact absurd HA.out (by simp [leadlag_step.l0])
  | succ k1 =>
   have H:=HA.out
   clear HA
   simp only [leadlag_step.l0] at H
   by_cases c29 : x32_1 < (y146.length : Int)
   ·rw [if_pos c29] at H
    have c29b0 : decide (x32_1 < (y146.length : Int)) = true:=decide_eq_true c29
    clear c29
    by_cases c30 : 0 ≤ x32_1
    rotate_left
    ·rw [if_neg c30] at H
     exact absurd H (by simp)
    rw [if_pos c30] at H
    have c30b0 : decide (0 ≤ x32_1) = true:=decide_eq_true c30
    clear c30
    by_cases c31 : x32_1 < (x150000_1.length : Int)
    rotate_left
    ·rw [if_neg c31] at H
     exact absurd H (by simp)
    rw [if_pos c31] at H
    have c31b0 : decide (x32_1 < (x150000_1.length : Int)) = true:=decide_eq_true c31
    clear c31
    have HC32:=Aside0.mk H
    clear H
    have hnb33:=NB149_143.out
    have hnc33:=NB143_149.out
    have hnb34:=NB149_144.out
    have hnc34:=NB144_149.out
    have hnb35:=NB149_145.out
    have hnc35:=NB145_149.out
    have hcz36_0 : wr.cell? ⟨gb149,0,none⟩ = some (u150000):=(blk_cell BK149.out 0).trans rfl
    have hfz36_0:=blk_frozen BK149.out 0
    obtain ⟨Ao37,co37,eo37⟩:=Kd.R_slice HO_150000.out
    subst eo37
    have p151 : 0 ≤ (x32_1 : Int):=of_decide_eq_true (by first|(with_reducible assumption)|assumption)
    have q151 : x32_1 < (x150000_1.length : Int):=of_decide_eq_true (by first|(with_reducible assumption)|assumption)
    obtain ⟨ad151,e151,hx151_0,hx151_1,hx151_2⟩:=at_T62 (Kd.R_reads' HO_150000.out).2.2 x32_1 p151 q151
    cases e151
    replace p151:=eq_true p151
    replace q151:=eq_true q151
    go_upto_if 39 with (fail)
    go_cut [] (fun wc => ∃ (kq : Nat) (x150000_31 : List (S62)) (u150000 : Value),Aside0 (leadlag_step.j1 kq a2 l3 a4 x32_1 (y146.length : Int) x32_1 a0_0 a0_1 l1_0 a1_1 a1_2 x150000_31 = some (r1,r2,r3))∧Aside0 (kq ≤ k1)∧Aside0 (Kd.R k62 62 wc w.heap.size (fun _ => True) u150000 x150000_31)∧Aside0 (wc.heap[gb143]? = some (.cells #[.int .i64 a0_0,.int .i64 a0_1] 43 (0,0)))∧Aside0 (wc.heap[gb144]? = some (.cells #[u150000,.int .i64 a1_1,.int .i64 a1_2] 32 (0,0)))∧Aside0 (wc.heap[gb145]? = some (.cells #[(.slice none 0 0),.int .i64 0,.int .i64 0] 32 (0,0)))∧Aside0 (wc.heap[gb149]? = some (.cells #[u150000] 30 (0,0)))∧Aside0 (Below w.heap.size w wc))
    case first =>
     have H:=HC32.out
     clear HC32
     obtain ⟨bq38,hbq38⟩ : ∃ b_ : Bool,b_ = ((rd_T62 x150000_1 x32_1).f1):=⟨_,rfl⟩
     replace H : (if bq38 = true then (leadlag_step.j1 k1 a2 l3 a4 x32_1 (y146.length : Int) x32_1 a0_0 a0_1 l1_0 a1_1 a1_2 (x150000_1.set (x32_1 : Int).toNat (⟨mn (wrap64 (((rd_T62 x150000_1 x32_1).f0) + 1)) 6311433599,bq38,(rd_T62 x150000_1 x32_1).f2⟩ : S62))) else (leadlag_step.j1 k1 a2 l3 a4 x32_1 (y146.length : Int) x32_1 a0_0 a0_1 l1_0 a1_1 a1_2 x150000_1)) = some (r1,r2,r3):=by rw [← hbq38] at H;exact H
     have Nbq38:=Aside0.mk hbq38
     clear hbq38
     (try rw [← Nbq38.out])
     by_cases c39 : bq38 = true
     rotate_left
     ·replace c39:=Bool.eq_false_iff.mpr c39
      subst c39
      have H1 : (leadlag_step.j1 k1 a2 l3 a4 x32_1 (y146.length : Int) x32_1 a0_0 a0_1 l1_0 a1_1 a1_2 x150000_1) = some (r1,r2,r3):=by rw [if_neg (show ¬ (false = true) by decide)] at H;exact H
      clear H
      have H:=H1
      clear H1
      have H':=Aside0.mk H
      clear H
      go_wp2
      go_meet
      case rel => exact ⟨_,(x150000_1),(.slice (some ad151) x150000_1.length co37),H',⟨by have:=HK1.out;first|omega|exact Nat.le_refl _⟩,⟨by (with_reducible repeat (first|apply Kd.R_alloc|apply Kd.R_drewN|apply Kd.R_drew));exact HO_150000.out⟩,⟨by (with_reducible repeat (first|refine blk_drewN ?_ _|refine blk_drew ?_|refine blk_alloc ?_ _));exact BK143.out⟩,⟨by (with_reducible repeat (first|refine blk_drewN ?_ _|refine blk_drew ?_|refine blk_alloc ?_ _));exact BK144.out⟩,⟨by (with_reducible repeat (first|refine blk_drewN ?_ _|refine blk_drew ?_|refine blk_alloc ?_ _));exact BK145.out⟩,⟨by (with_reducible repeat (first|refine blk_drewN ?_ _|refine blk_drew ?_|refine blk_alloc ?_ _));exact BK149.out⟩,⟨by repeat (first|(with_reducible first|exact HB.out|apply below_alloc|apply pw_below_drewN|apply below_drew1|refine below_set ?_ GE143.out|refine below_set ?_ GE144.out|refine below_set ?_ GE145.out|refine below_set ?_ GE149.out)|exact HB.out)⟩⟩
     subst c39
     have H1 : (leadlag_step.j1 k1 a2 l3 a4 x32_1 (y146.length : Int) x32_1 a0_0 a0_1 l1_0 a1_1 a1_2 (x150000_1.set (x32_1 : Int).toNat (⟨mn (wrap64 (((rd_T62 x150000_1 x32_1).f0) + 1)) 6311433599,true,(rd_T62 x150000_1 x32_1).f2⟩ : S62))) = some (r1,r2,r3):=by rw [if_pos rfl] at H;exact H
     clear H
     have H:=H1
     clear H1
     obtain ⟨ji40,hji40⟩ : ∃ j_ : Int,(mn (wrap64 (((rd_T62 x150000_1 x32_1).f0) + 1)) 6311433599) = j_:=⟨_,rfl⟩
     replace H : (leadlag_step.j1 k1 a2 l3 a4 x32_1 (y146.length : Int) x32_1 a0_0 a0_1 l1_0 a1_1 a1_2 (x150000_1.set (x32_1 : Int).toNat (⟨ji40,true,(rd_T62 x150000_1 x32_1).f2⟩ : S62))) = some (r1,r2,r3):=by first|(rw [hji40] at H;exact H)|(simp only [hji40] at H ⊢;exact H)
     have hji40_ : (if 6311433599 < (wrap64 (((rd_T62 x150000_1 x32_1).f0) + 1)) then 6311433599 else (wrap64 (((rd_T62 x150000_1 x32_1).f0) + 1))) = ji40:=hji40
     obtain ⟨y153,hy153⟩ : ∃ y_ : List (S62),y_ = (x150000_1.set (x32_1 : Int).toNat (⟨ji40,true,(rd_T62 x150000_1 x32_1).f2⟩ : S62)):=⟨_,rfl⟩
     replace H : (leadlag_step.j1 k1 a2 l3 a4 x32_1 (y146.length : Int) x32_1 a0_0 a0_1 l1_0 a1_1 a1_2 y153) = some (r1,r2,r3):=by first|(rw [hy153];with_reducible exact H)|(have H2_:=(Option.bind_some _ _).symm.trans H;rw [hy153];with_reducible exact H2_)|(have H2_:=(Option.bind_some _ _).symm.trans H;with_reducible exact H2_)|with_reducible exact H|(rw [hy153];exact H)|exact H
     have Ny153:=Aside0.mk hy153
     clear hy153
     have H':=Aside0.mk H
     clear H
     try go_wp2
     have n0_:=Aside0.mk (Kd.R_drew HO_150000.out)
     have n1_:=Aside0.mk (blk_drew BK143.out)
     have n2_:=Aside0.mk (blk_drew BK144.out)
     have n3_:=Aside0.mk (blk_drew BK145.out)
     have n4_:=Aside0.mk (blk_drew BK149.out)
     have n5_:=Aside0.mk (below_drew1 HB.out)
     clear HO_150000
     clear BK143
     clear BK144
     clear BK145
     clear BK149
     clear HB
     have HO_150000:=n0_
     have BK143:=n1_
     have BK144:=n2_
     have BK145:=n3_
     have BK149:=n4_
     have HB:=n5_
     clear n0_ n1_ n2_ n3_ n4_ n5_
     have p152 : 0 ≤ (x32_1 : Int):=of_decide_eq_true (by first|(with_reducible assumption)|assumption)
     have q152 : x32_1 < (x150000_1.length : Int):=of_decide_eq_true (by first|(with_reducible assumption)|assumption)
     obtain ⟨ad152,e152,hx152_0,hx152_1,hx152_2⟩:=at_T62 (Kd.R_reads' HO_150000.out).2.2 x32_1 p152 q152
     (try rw [← Nbq38.out] at hx152_1)
     (try rw [← Nbq38.out] at hx152_2)
     obtain rfl : ad151 = ad152:=(by injection e152)
     replace p152:=eq_true p152
     replace q152:=eq_true q152
     have p41 : 0 ≤ (x32_1 : Int):=of_decide_eq_true (by first|(with_reducible assumption)|assumption)
     have q41 : (x32_1 : Int) < ((x150000_1.length : Int) : Int):=of_decide_eq_true (by first|(with_reducible assumption)|assumption)
     obtain ⟨go41,co41,eo41,gb41,gl41,cl41,HG41⟩:=Kd.R_form HO_150000.out (by omega)
     (first|cases eo41|(injection eo41 with ea_ en_ ec_;(first|subst ea_|(injection ea_ with ea_;subst ea_));subst ec_;clear en_))
     have GB41:=Aside0.mk gb41
     have GG41:=Aside0.mk HG41
     clear gb41 gl41 HG41
     (first|simp only [add_plain] at hx151_0|skip)
     (first|simp only [add_plain] at hx151_1|skip)
     (first|simp only [add_plain] at hx151_2|skip)
     (first|simp only [add_plain] at hx152_0|skip)
     (first|simp only [add_plain] at hx152_1|skip)
     (first|simp only [add_plain] at hx152_2|skip)
     obtain ⟨ce41,hcl41,hM41,hcc41,hfr41⟩:=Kd.R_elem HO_150000.out z62 (x32_1 : Int) p41 q41
     obtain rfl:=k62_openM hM41
     have hx41_0 : World.cell? _ ⟨go41,(x32_1 : Int).toNat * 3,none⟩ = some (.int .i64 ((rd_T62 x150000_1 x32_1).f0)):=hcc41 0 _ rfl
     have hx41_1 : World.cell? _ ⟨go41,(x32_1 : Int).toNat * 3 + 1,none⟩ = some (.bool ((rd_T62 x150000_1 x32_1).f1)):=hcc41 1 _ rfl
     have hx41_2 : World.cell? _ ⟨go41,(x32_1 : Int).toNat * 3 + 2,none⟩ = some (.bool ((rd_T62 x150000_1 x32_1).f2)):=hcc41 2 _ rfl
     have hf41_0 : World.frozen? _ ⟨go41,(x32_1 : Int).toNat * 3,none⟩ = false:=hfr41 0
     have hf41_1 : World.frozen? _ ⟨go41,(x32_1 : Int).toNat * 3 + 1,none⟩ = false:=hfr41 1
     have hf41_2 : World.frozen? _ ⟨go41,(x32_1 : Int).toNat * 3 + 2,none⟩ = false:=hfr41 2
     clear hcl41 hcc41 hfr41 hM41
     replace p41:=eq_true p41
     replace q41:=eq_true q41
     obtain ⟨ce43,hcl43,hM43,hcc43,hfr43⟩:=Kd.R_elem HO_150000.out z62 (x32_1 : Int) (of_decide_eq_true (by first|(with_reducible assumption)|assumption)) (by have h_ : (x32_1 : Int) < ((x150000_1.length : Int) : Int):=of_decide_eq_true (by first|(with_reducible assumption)|assumption);first|exact h_|(have e_:=(Kd.R_reads' HO_150000.out).1;omega)|simpa using h_)
     obtain rfl:=k62_openM hM43
     have HP43:=(Kd.R_seg HO_150000.out (x32_1 : Int) (of_decide_eq_true (by first|(with_reducible assumption)|assumption)) (by have h_ : (x32_1 : Int) < ((x150000_1.length : Int) : Int):=of_decide_eq_true (by first|(with_reducible assumption)|assumption);first|exact h_|(have e_:=(Kd.R_reads' HO_150000.out).1;omega)|simpa using h_) (seg:=[.int .i64 ji40]) (j:=0) hcl43 hcc43 (show 1 ≤ 3 from by decide) (x':=(⟨ji40,true,(rd_T62 x150000_1 x32_1).f2⟩ : S62)) (k62_mkM_of _ _ _ (⟨ji40,true,(rd_T62 x150000_1 x32_1).f2⟩ : S62) (by first|rfl|exact k62_cons3 (congrArg Value.bool Nbq38.out.symm)|exact k62_cons3 (congrArg Value.bool Nbq48.out.symm))) (fun _ hk => hk)).1
     rw [← Ny153.out] at HP43
     have HQ43:=Aside0.mk HP43
     clear hcl43 hcc43 hfr43 hM43 HP43
     refine start_ (n:=12) (S:=fun w' => w'.cell? ⟨gb149,0,none⟩ = some (.slice (some ⟨go41,0,none⟩) x150000_1.length co37)∧w'.cell? ⟨go41,((x32_1).toNat * 3),none⟩ = some (.int .i64 ((rd_T62 x150000_1 x32_1).f0))∧w'.cell? ⟨go41,((x32_1).toNat * 3) + 1,none⟩ = some (.bool (true))∧w'.cell? ⟨go41,((x32_1).toNat * 3) + 2,none⟩ = some (.bool ((rd_T62 x150000_1 x32_1).f2))) (ds:=[11]) #[false,false,false,false,false,false,false,false,false,false,false,false] (by kernel_rfl) rfl rfl ⟨(blk_cell BK149.out 0).trans rfl,hx152_0,hx152_1,hx152_2⟩ (fun hHeld => ?_);refine with_tabW leadlag_step.tab8 leadlag_step.bits8 (fun HT_ HW_ => ?_)
     generalize wr.drew = w42 at HO_150000 BK143 BK144 BK145 BK149 HB GG41 HQ43 hf41_0 hf41_1 hf41_2 hx151_0 hx151_1 hx151_2 hx152_0 hx152_1 hx152_2 hx41_0 hx41_1 hx41_2 hHeld ⊢
     refine pure_ (i:=1) (N:=some 41) (v:=?_) (a':=?_) #[false,true,false,false,false,false,false,false,false,false,false,false] rfl rfl (any_of HT_.out (by kernel_rfl)) (fun _ _ _ h => h) (Or.inl ⟨by rfl,?_⟩) ?_ ?_
     rotate_left;(intro w';go_simp;with_reducible rfl);rotate_left;(simp only [Act.put,List.setIfInBounds_toArray,List.set_cons_zero,List.set_cons_succ,i64_w,i32_w];rfl)
     refine pure_ (i:=3) (N:=some 43) (v:=?_) (a':=?_) #[false,true,false,true,false,false,false,false,false,false,false,false] rfl rfl (any_of HT_.out (by kernel_rfl)) (fun _ _ _ h => h) (Or.inl ⟨by rfl,?_⟩) ?_ ?_
     rotate_left;(intro w';go_simp;with_reducible rfl);rotate_left;(simp only [Act.put,List.setIfInBounds_toArray,List.set_cons_zero,List.set_cons_succ,i64_w,i32_w];rfl)
     refine take_ (i:=0) (N:=some 40) (v:=?_) (a':=?_) #[true,true,false,true,false,false,false,false,false,false,false,false] rfl rfl (take_ofW HT_.out HW_.out (by kernel_rfl)) (fun _ _ _ h => h) (Or.inl ⟨by rfl,?_⟩) hHeld ?_ ?_
     rotate_left;(rintro w' ⟨s0,s1,s2,s3⟩;go_simp;with_reducible rfl);rotate_left;(simp only [Act.put,List.setIfInBounds_toArray,List.set_cons_zero,List.set_cons_succ,i64_w,i32_w];rfl)
     refine take_ (i:=2) (N:=some 42) (v:=?_) (a':=?_) #[true,true,true,true,false,false,false,false,false,false,false,false] rfl rfl (take_ofW HT_.out HW_.out (by kernel_rfl)) (fun _ _ _ h => h) (Or.inl ⟨by rfl,?_⟩) hHeld ?_ ?_
     rotate_left;(rintro w' ⟨s0,s1,s2,s3⟩;go_simp;with_reducible rfl);rotate_left;(simp only [Act.put,List.setIfInBounds_toArray,List.set_cons_zero,List.set_cons_succ,i64_w,i32_w];rfl)
     refine pure_ (i:=4) (N:=some 44) (v:=?_) (a':=?_) #[true,true,true,true,true,false,false,false,false,false,false,false] rfl rfl (any_of HT_.out (by kernel_rfl)) (fun _ _ _ h => h) (Or.inl ⟨by rfl,?_⟩) ?_ ?_
     rotate_left;(intro w';go_simp;with_reducible rfl);rotate_left;(simp only [Act.put,List.setIfInBounds_toArray,List.set_cons_zero,List.set_cons_succ,i64_w,i32_w];rfl)
     refine pure_ (i:=5) (N:=some 45) (v:=?_) (a':=?_) #[true,true,true,true,true,true,false,false,false,false,false,false] rfl rfl (any_of HT_.out (by kernel_rfl)) (fun _ _ _ h => h) (Or.inl ⟨by rfl,?_⟩) ?_ ?_
     rotate_left;(intro w';go_simp;with_reducible rfl);rotate_left;(simp only [Act.put,List.setIfInBounds_toArray,List.set_cons_zero,List.set_cons_succ,i64_w,i32_w];rfl)
     refine take_ (i:=6) (N:=some 46) (v:=?_) (a':=?_) #[true,true,true,true,true,true,true,false,false,false,false,false] rfl rfl (take_ofW HT_.out HW_.out (by kernel_rfl)) (fun _ _ _ h => h) (Or.inl ⟨by rfl,?_⟩) hHeld ?_ ?_
     rotate_left;(rintro w' ⟨s0,s1,s2,s3⟩;go_simp;with_reducible rfl);rotate_left;(simp only [Act.put,List.setIfInBounds_toArray,List.set_cons_zero,List.set_cons_succ,i64_w,i32_w];rfl)
     refine pure_ (i:=7) (N:=some 47) (v:=?_) (a':=?_) #[true,true,true,true,true,true,true,true,false,false,false,false] rfl rfl (any_of HT_.out (by kernel_rfl)) (fun _ _ _ h => h) (Or.inl ⟨by rfl,?_⟩) ?_ ?_
     rotate_left;(intro w';go_simp;with_reducible rfl);rotate_left;(simp only [Act.put,List.setIfInBounds_toArray,List.set_cons_zero,List.set_cons_succ,i64_w,i32_w];rfl)
     refine pure_ (i:=8) (N:=some 48) (v:=?_) (a':=?_) #[true,true,true,true,true,true,true,true,true,false,false,false] rfl rfl (any_of HT_.out (by kernel_rfl)) (fun _ _ _ h => h) (Or.inl ⟨by rfl,?_⟩) ?_ ?_
     rotate_left;(intro w';go_simp;with_reducible rfl);rotate_left;(simp only [Act.put,List.setIfInBounds_toArray,List.set_cons_zero,List.set_cons_succ,i64_w,i32_w];rfl)
     refine pure_ (i:=9) (N:=some 49) (v:=?_) (a':=?_) #[true,true,true,true,true,true,true,true,true,true,false,false] rfl rfl (any_of HT_.out (by kernel_rfl)) (fun _ _ _ h => h) (Or.inl ⟨by rfl,?_⟩) ?_ ?_
     rotate_left;(intro w';go_simp;with_reducible rfl);rotate_left;(simp only [Act.put,List.setIfInBounds_toArray,List.set_cons_zero,List.set_cons_succ,i64_w,i32_w];rfl)
     refine pure_ (i:=10) (N:=some 50) (v:=?_) (a':=?_) #[true,true,true,true,true,true,true,true,true,true,true,false] rfl rfl (any_of HT_.out (by kernel_rfl)) (fun _ _ _ h => h) (Or.inl ⟨by rfl,?_⟩) ?_ ?_
     rotate_left;(intro w';go_simp;with_reducible rfl);rotate_left;(simp only [Act.put,List.setIfInBounds_toArray,List.set_cons_zero,List.set_cons_succ,i64_w,i32_w];rfl)
     refine last_ (i:=11) (N:=none) #[true,true,true,true,true,true,true,true,true,true,true,true] rfl rfl (one_of HT_.out (by kernel_rfl)) (by decide) (fun K hK => ?_)
     refine skip_ (w1:=?_) (by rfl) rfl ?_ ?_
     rotate_left
     ·go_simp
      rfl
     refine hK.out _ _ ?_
     clear hK K
     refine done_ (done_of HT_.out (by kernel_rfl)) ?_
     try go_wp2
     go_meet
     case rel => exact ⟨_,(y153),(.slice (some ⟨go41,0,none⟩) x150000_1.length co37),H',⟨by have:=HK1.out;first|omega|exact Nat.le_refl _⟩,⟨by (with_reducible repeat (first|apply Kd.R_alloc|apply Kd.R_drewN|apply Kd.R_drew));exact HQ43.out⟩,⟨by (with_reducible repeat (first|refine blk_drewN ?_ _|refine blk_drew ?_|refine blk_alloc ?_ _));refine blk_far ?_ (by have h_:=Kd.R_ne HO_150000.out BK143.out (by decide);intro e_;exact h_ (by rw [e_];rfl)) _;(with_reducible repeat (first|refine blk_drewN ?_ _|refine blk_drew ?_|refine blk_alloc ?_ _));exact BK143.out⟩,⟨by (with_reducible repeat (first|refine blk_drewN ?_ _|refine blk_drew ?_|refine blk_alloc ?_ _));refine blk_far ?_ (by have h_:=Kd.R_ne HO_150000.out BK144.out (by decide);intro e_;exact h_ (by rw [e_];rfl)) _;(with_reducible repeat (first|refine blk_drewN ?_ _|refine blk_drew ?_|refine blk_alloc ?_ _));exact BK144.out⟩,⟨by (with_reducible repeat (first|refine blk_drewN ?_ _|refine blk_drew ?_|refine blk_alloc ?_ _));refine blk_far ?_ (by have h_:=Kd.R_ne HO_150000.out BK145.out (by decide);intro e_;exact h_ (by rw [e_];rfl)) _;(with_reducible repeat (first|refine blk_drewN ?_ _|refine blk_drew ?_|refine blk_alloc ?_ _));exact BK145.out⟩,⟨by (with_reducible repeat (first|refine blk_drewN ?_ _|refine blk_drew ?_|refine blk_alloc ?_ _));refine blk_far ?_ (by have h_:=Kd.R_ne HO_150000.out BK149.out (by decide);intro e_;exact h_ (by rw [e_];rfl)) _;(with_reducible repeat (first|refine blk_drewN ?_ _|refine blk_drew ?_|refine blk_alloc ?_ _));exact BK149.out⟩,⟨by repeat (first|(with_reducible first|exact HB.out|apply below_alloc|apply pw_below_drewN|apply below_drew1|refine below_set ?_ GB41.out|refine below_set ?_ GE143.out|refine below_set ?_ GE144.out|refine below_set ?_ GE145.out|refine below_set ?_ GE149.out)|exact HB.out)⟩⟩
    case rest =>
     clear HC32
     (try clear c1);(try clear p1);(try clear q1);(try clear hx1);(try clear c2);(try clear p2);(try clear c3);(try clear q3);(try clear c4);(try clear p4);(try clear q4);(try clear hx4);(try clear c6);(try clear c6b0);(try clear c6b1);(try clear p6);(try clear c7);(try clear c7b0);(try clear c7b1);(try clear c12);(try clear c13);(try clear p15);(try clear q15);(try clear hx15);(try clear c19);(try clear c20);(try clear c21);(try clear c29);(try clear c29b0);(try clear c30);(try clear c30b0);(try clear c31);(try clear c31b0);(try clear c33);(try clear c34);(try clear c35);(try clear q38);(try clear c39);(try clear c41);(try clear p41);(try clear q41);(try clear hx41);(try clear hf41);(try clear c42);(try clear c43);(try clear hcz14_0);(try clear hcz14_1);(try clear hcz14_2);(try clear hcz22_0);(try clear hcz24_0);(try clear hcz25_0);(try clear hcz25_1);(try clear hcz25_2);(try clear hcz27_0);(try clear hcz28_0);(try clear hcz28_1);(try clear hcz28_2);(try clear hcz36_0);(try clear hfz14_0);(try clear hfz14_1);(try clear hfz14_2);(try clear hfz22_0);(try clear hfz24_0);(try clear hfz25_0);(try clear hfz25_1);(try clear hfz25_2);(try clear hfz27_0);(try clear hfz28_0);(try clear hfz28_1);(try clear hfz28_2);(try clear hfz36_0);(try clear hx151_0);(try clear hx151_1);(try clear hx151_2);(try clear hx152_0);(try clear hx152_1);(try clear hx152_2);(try clear hx41_0);(try clear hx41_1);(try clear hx41_2);(try clear p151);(try clear p152);(try clear p2);(try clear p41);(try clear q151);(try clear q152);(try clear q41)
     obtain ⟨kq,x150000_31,u150000,HA,HJ31,HO_150000,BK143,BK144,BK145,BK149,HB⟩:=hcut
     cases kq with
     | zero => exact absurd HA.out (by simp [leadlag_step.j1])
     | succ kj31 =>
      have H:=HA.out
      clear HA
      simp only [leadlag_step.j1] at H
      by_cases c44 : 0 ≤ x32_1
      rotate_left
      ·rw [if_neg c44] at H
       exact absurd H (by simp)
      rw [if_pos c44] at H
      have c44b0 : decide (0 ≤ x32_1) = true:=decide_eq_true c44
      clear c44
      by_cases c45 : x32_1 < (l3.length : Int)
      rotate_left
      ·rw [if_neg c45] at H
       exact absurd H (by simp)
      rw [if_pos c45] at H
      have c45b0 : decide (x32_1 < (l3.length : Int)) = true:=decide_eq_true c45
      clear c45
      by_cases c46 : x32_1 < (x150000_31.length : Int)
      rotate_left
      ·rw [if_neg c46] at H
       exact absurd H (by simp)
      rw [if_pos c46] at H
      have c46b0 : decide (x32_1 < (x150000_31.length : Int)) = true:=decide_eq_true c46
      clear c46
      obtain ⟨y155,hy155⟩ : ∃ y_ : List (S62),y_ = (x150000_31.set (x32_1 : Int).toNat (⟨(rd_T62 x150000_31 x32_1).f0,(rd_T62 x150000_31 x32_1).f1,rdOf false l3 x32_1⟩ : S62)):=⟨_,rfl⟩
      replace H : (if (rd_T62 y155 x32_1).f1 = true then (leadlag_step.l0 kj31 a2 l3 a4 (y146.length : Int) (wrap64 (x32_1 + 1)) a0_0 a0_1 l1_0 a1_1 a1_2 (y155.set (x32_1 : Int).toNat (⟨(rd_T62 y155 x32_1).f0,!(rdOf false l3 x32_1),(rd_T62 y155 x32_1).f2⟩ : S62))) else (leadlag_step.l0 kj31 a2 l3 a4 (y146.length : Int) (wrap64 (x32_1 + 1)) a0_0 a0_1 l1_0 a1_1 a1_2 (y155.set (x32_1 : Int).toNat (⟨(rd_T62 y155 x32_1).f0,false,(rd_T62 y155 x32_1).f2⟩ : S62)))) = some (r1,r2,r3):=by first|(rw [hy155];with_reducible exact H)|(have H2_:=(Option.bind_some _ _).symm.trans H;rw [hy155];with_reducible exact H2_)|(have H2_:=(Option.bind_some _ _).symm.trans H;with_reducible exact H2_)|with_reducible exact H|(rw [hy155];exact H)|exact H
      have Ny155:=Aside0.mk hy155
      clear hy155
      obtain ⟨bq48,hbq48⟩ : ∃ b_ : Bool,b_ = ((rd_T62 y155 x32_1).f1):=⟨_,rfl⟩
      replace H : (if bq48 = true then (leadlag_step.l0 kj31 a2 l3 a4 (y146.length : Int) (wrap64 (x32_1 + 1)) a0_0 a0_1 l1_0 a1_1 a1_2 (y155.set (x32_1 : Int).toNat (⟨(rd_T62 y155 x32_1).f0,!(rdOf false l3 x32_1),(rd_T62 y155 x32_1).f2⟩ : S62))) else (leadlag_step.l0 kj31 a2 l3 a4 (y146.length : Int) (wrap64 (x32_1 + 1)) a0_0 a0_1 l1_0 a1_1 a1_2 (y155.set (x32_1 : Int).toNat (⟨(rd_T62 y155 x32_1).f0,false,(rd_T62 y155 x32_1).f2⟩ : S62)))) = some (r1,r2,r3):=by rw [← hbq48] at H;exact H
      have Nbq48:=Aside0.mk hbq48
      clear hbq48
      by_cases c49 : bq48 = true
      ·subst c49
       have H1 : (leadlag_step.l0 kj31 a2 l3 a4 (y146.length : Int) (wrap64 (x32_1 + 1)) a0_0 a0_1 l1_0 a1_1 a1_2 (y155.set (x32_1 : Int).toNat (⟨(rd_T62 y155 x32_1).f0,!(rdOf false l3 x32_1),(rd_T62 y155 x32_1).f2⟩ : S62))) = some (r1,r2,r3):=by rw [if_pos rfl] at H;exact H
       clear H
       have H:=H1
       clear H1
       obtain ⟨y158,hy158⟩ : ∃ y_ : List (S62),y_ = (y155.set (x32_1 : Int).toNat (⟨(rd_T62 y155 x32_1).f0,!(rdOf false l3 x32_1),(rd_T62 y155 x32_1).f2⟩ : S62)):=⟨_,rfl⟩
       replace H : (leadlag_step.l0 kj31 a2 l3 a4 (y146.length : Int) (wrap64 (x32_1 + 1)) a0_0 a0_1 l1_0 a1_1 a1_2 y158) = some (r1,r2,r3):=by first|(rw [hy158];with_reducible exact H)|(have H2_:=(Option.bind_some _ _).symm.trans H;rw [hy158];with_reducible exact H2_)|(have H2_:=(Option.bind_some _ _).symm.trans H;with_reducible exact H2_)|with_reducible exact H|(rw [hy158];exact H)|exact H
       have Ny158:=Aside0.mk hy158
       clear hy158
       have H':=Aside0.mk H
       clear H
       try go_wp2
       have n0_:=Aside0.mk (Kd.R_drew HO_150000.out)
       have n1_:=Aside0.mk (blk_drew BK143.out)
       have n2_:=Aside0.mk (blk_drew BK144.out)
       have n3_:=Aside0.mk (blk_drew BK145.out)
       have n4_:=Aside0.mk (blk_drew BK149.out)
       have n5_:=Aside0.mk (below_drew1 HB.out)
       clear HO_150000
       clear BK143
       clear BK144
       clear BK145
       clear BK149
       clear HB
       have HO_150000:=n0_
       have BK143:=n1_
       have BK144:=n2_
       have BK145:=n3_
       have BK149:=n4_
       have HB:=n5_
       clear n0_ n1_ n2_ n3_ n4_ n5_
       have p154 : 0 ≤ (x32_1 : Int):=of_decide_eq_true (by first|(with_reducible assumption)|assumption)
       have q154 : x32_1 < (l3.length : Int):=of_decide_eq_true (by first|(with_reducible assumption)|assumption)
       obtain ⟨ad154,e154,hx154_0⟩:=Kd.at_bool HR3.out x32_1 p154 q154
       have hw154_0:=hx154_0
       (try rw [← Nbq48.out] at hx154_0)
       cases e154
       replace hx154_0:=(HB.out.cell (World.block_lt_of_cell? w _ hx154_0)).trans hx154_0
       replace p154:=eq_true p154
       replace q154:=eq_true q154
       have p47 : 0 ≤ (x32_1 : Int):=of_decide_eq_true (by first|(with_reducible assumption)|assumption)
       have q47 : (x32_1 : Int) < ((x150000_31.length : Int) : Int):=of_decide_eq_true (by first|(with_reducible assumption)|assumption)
       obtain ⟨go47,co47,eo47,gb47,gl47,cl47,HG47⟩:=Kd.R_form HO_150000.out (by omega)
       (first|cases eo47|(injection eo47 with ea_ en_ ec_;(first|subst ea_|(injection ea_ with ea_;subst ea_));subst ec_;clear en_))
       have GB47:=Aside0.mk gb47
       have GG47:=Aside0.mk HG47
       clear gb47 gl47 HG47
       obtain ⟨ce47,hcl47,hM47,hcc47,hfr47⟩:=Kd.R_elem HO_150000.out z62 (x32_1 : Int) p47 q47
       obtain rfl:=k62_openM hM47
       have hx47_0 : World.cell? _ ⟨go47,(x32_1 : Int).toNat * 3,none⟩ = some (.int .i64 ((rd_T62 x150000_31 x32_1).f0)):=hcc47 0 _ rfl
       have hx47_1 : World.cell? _ ⟨go47,(x32_1 : Int).toNat * 3 + 1,none⟩ = some (.bool ((rd_T62 x150000_31 x32_1).f1)):=hcc47 1 _ rfl
       have hx47_2 : World.cell? _ ⟨go47,(x32_1 : Int).toNat * 3 + 2,none⟩ = some (.bool ((rd_T62 x150000_31 x32_1).f2)):=hcc47 2 _ rfl
       have hf47_0 : World.frozen? _ ⟨go47,(x32_1 : Int).toNat * 3,none⟩ = false:=hfr47 0
       have hf47_1 : World.frozen? _ ⟨go47,(x32_1 : Int).toNat * 3 + 1,none⟩ = false:=hfr47 1
       have hf47_2 : World.frozen? _ ⟨go47,(x32_1 : Int).toNat * 3 + 2,none⟩ = false:=hfr47 2
       clear hcl47 hcc47 hfr47 hM47
       replace p47:=eq_true p47
       replace q47:=eq_true q47
       obtain ⟨ce52,hcl52,hM52,hcc52,hfr52⟩:=Kd.R_elem HO_150000.out z62 (x32_1 : Int) (of_decide_eq_true (by first|(with_reducible assumption)|assumption)) (by have h_ : (x32_1 : Int) < ((x150000_31.length : Int) : Int):=of_decide_eq_true (by first|(with_reducible assumption)|assumption);first|exact h_|(have e_:=(Kd.R_reads' HO_150000.out).1;omega)|simpa using h_)
       obtain rfl:=k62_openM hM52
       have HP52:=(Kd.R_seg HO_150000.out (x32_1 : Int) (of_decide_eq_true (by first|(with_reducible assumption)|assumption)) (by have h_ : (x32_1 : Int) < ((x150000_31.length : Int) : Int):=of_decide_eq_true (by first|(with_reducible assumption)|assumption);first|exact h_|(have e_:=(Kd.R_reads' HO_150000.out).1;omega)|simpa using h_) (seg:=[.bool (rdOf false l3 x32_1)]) (j:=2) hcl52 hcc52 (show 3 ≤ 3 from by decide) (x':=(⟨(rd_T62 x150000_31 x32_1).f0,(rd_T62 x150000_31 x32_1).f1,rdOf false l3 x32_1⟩ : S62)) (k62_mkM _ _ _ (⟨(rd_T62 x150000_31 x32_1).f0,(rd_T62 x150000_31 x32_1).f1,rdOf false l3 x32_1⟩ : S62) ) (fun _ hk => hk)).1
       rw [← Ny155.out] at HP52
       have HQ52:=Aside0.mk HP52
       clear hcl52 hcc52 hfr52 hM52 HP52
       refine start_ (n:=9) (S:=fun w' => w'.cell? ⟨gb149,0,none⟩ = some (.slice (some ⟨go47,0,none⟩) x150000_31.length co47)∧w'.cell? (ad154.add (x32_1).toNat) = some (.bool (rdOf false l3 x32_1))) (ds:=[8]) #[false,false,false,false,false,false,false,false,false] (by kernel_rfl) rfl rfl ⟨(blk_cell BK149.out 0).trans rfl,((HB.out.cell (World.block_lt_of_cell? w _ hw154_0)).trans hw154_0)⟩ (fun hHeld => ?_);refine with_tabW leadlag_step.tab9 leadlag_step.bits9 (fun HT_ HW_ => ?_)
       generalize wc.drew = w51 at HO_150000 BK143 BK144 BK145 BK149 HB GG47 HQ52 hf47_0 hf47_1 hf47_2 hx154_0 hx47_0 hx47_1 hx47_2 hHeld ⊢
       refine pure_ (i:=1) (N:=some 52) (v:=?_) (a':=?_) #[false,true,false,false,false,false,false,false,false] rfl rfl (any_of HT_.out (by kernel_rfl)) (fun _ _ _ h => h) (Or.inl ⟨by rfl,?_⟩) ?_ ?_
       rotate_left;(intro w';go_simp;with_reducible rfl);rotate_left;(simp only [Act.put,List.setIfInBounds_toArray,List.set_cons_zero,List.set_cons_succ,i64_w,i32_w];rfl)
       refine pure_ (i:=2) (N:=some 53) (v:=?_) (a':=?_) #[false,true,true,false,false,false,false,false,false] rfl rfl (any_of HT_.out (by kernel_rfl)) (fun _ _ _ h => h) (Or.inl ⟨by rfl,?_⟩) ?_ ?_
       rotate_left;(intro w';go_simp;with_reducible rfl);rotate_left;(simp only [Act.put,List.setIfInBounds_toArray,List.set_cons_zero,List.set_cons_succ,i64_w,i32_w];rfl)
       refine pure_ (i:=3) (N:=some 54) (v:=?_) (a':=?_) #[false,true,true,true,false,false,false,false,false] rfl rfl (any_of HT_.out (by kernel_rfl)) (fun _ _ _ h => h) (Or.inl ⟨by rfl,?_⟩) ?_ ?_
       rotate_left;(intro w';go_simp;with_reducible rfl);rotate_left;(simp only [Act.put,List.setIfInBounds_toArray,List.set_cons_zero,List.set_cons_succ,i64_w,i32_w];rfl)
       refine pure_ (i:=4) (N:=some 55) (v:=?_) (a':=?_) #[false,true,true,true,true,false,false,false,false] rfl rfl (any_of HT_.out (by kernel_rfl)) (fun _ _ _ h => h) (Or.inl ⟨by rfl,?_⟩) ?_ ?_
       rotate_left;(intro w';go_simp;with_reducible rfl);rotate_left;(simp only [Act.put,List.setIfInBounds_toArray,List.set_cons_zero,List.set_cons_succ,i64_w,i32_w];rfl)
       refine take_ (i:=0) (N:=some 51) (v:=?_) (a':=?_) #[true,true,true,true,true,false,false,false,false] rfl rfl (take_ofW HT_.out HW_.out (by kernel_rfl)) (fun _ _ _ h => h) (Or.inl ⟨by rfl,?_⟩) hHeld ?_ ?_
       rotate_left;(rintro w' ⟨s0,s1⟩;go_simp;with_reducible rfl);rotate_left;(simp only [Act.put,List.setIfInBounds_toArray,List.set_cons_zero,List.set_cons_succ,i64_w,i32_w];rfl)
       refine take_ (i:=5) (N:=some 56) (v:=?_) (a':=?_) #[true,true,true,true,true,true,false,false,false] rfl rfl (take_ofW HT_.out HW_.out (by kernel_rfl)) (fun _ _ _ h => h) (Or.inl ⟨by rfl,?_⟩) hHeld ?_ ?_
       rotate_left;(rintro w' ⟨s0,s1⟩;go_simp;with_reducible rfl);rotate_left;(simp only [Act.put,List.setIfInBounds_toArray,List.set_cons_zero,List.set_cons_succ,i64_w,i32_w];rfl)
       refine pure_ (i:=6) (N:=some 57) (v:=?_) (a':=?_) #[true,true,true,true,true,true,true,false,false] rfl rfl (any_of HT_.out (by kernel_rfl)) (fun _ _ _ h => h) (Or.inl ⟨by rfl,?_⟩) ?_ ?_
       rotate_left;(intro w';go_simp;with_reducible rfl);rotate_left;(simp only [Act.put,List.setIfInBounds_toArray,List.set_cons_zero,List.set_cons_succ,i64_w,i32_w];rfl)
       refine pure_ (i:=7) (N:=some 58) (v:=?_) (a':=?_) #[true,true,true,true,true,true,true,true,false] rfl rfl (any_of HT_.out (by kernel_rfl)) (fun _ _ _ h => h) (Or.inl ⟨by rfl,?_⟩) ?_ ?_
       rotate_left;(intro w';go_simp;with_reducible rfl);rotate_left;(simp only [Act.put,List.setIfInBounds_toArray,List.set_cons_zero,List.set_cons_succ,i64_w,i32_w];rfl)
       refine last_ (i:=8) (N:=none) #[true,true,true,true,true,true,true,true,true] rfl rfl (one_of HT_.out (by kernel_rfl)) (by decide) (fun K hK => ?_)
       refine skip_ (w1:=?_) (by rfl) rfl ?_ ?_
       rotate_left
       ·go_simp
        rfl
       refine hK.out _ _ ?_
       clear hK K
       refine done_ (done_of HT_.out (by kernel_rfl)) ?_
       try go_wp2
       have n0_ : Aside0 (Kd.R k62 62 (w51.setCell ⟨go47,(x32_1 : Int).toNat * 3 + 2,none⟩ (.bool (rdOf false l3 x32_1))) w.heap.size (fun _ => True) (.slice (some ⟨go47,0,none⟩) x150000_31.length co47) y155):=⟨by (with_reducible repeat (first|apply Kd.R_alloc|apply Kd.R_drewN|apply Kd.R_drew));exact HQ52.out⟩
       have n1_ : Aside0 ((w51.setCell ⟨go47,(x32_1 : Int).toNat * 3 + 2,none⟩ (.bool (rdOf false l3 x32_1))).heap[gb143]? = some (.cells #[.int .i64 a0_0,.int .i64 a0_1] 43 (0,0))):=⟨by (with_reducible repeat (first|refine blk_drewN ?_ _|refine blk_drew ?_|refine blk_alloc ?_ _));refine blk_far ?_ (by have h_:=Kd.R_ne HO_150000.out BK143.out (by decide);intro e_;exact h_ (by rw [e_];rfl)) _;(with_reducible repeat (first|refine blk_drewN ?_ _|refine blk_drew ?_|refine blk_alloc ?_ _));exact BK143.out⟩
       have n2_ : Aside0 ((w51.setCell ⟨go47,(x32_1 : Int).toNat * 3 + 2,none⟩ (.bool (rdOf false l3 x32_1))).heap[gb144]? = some (.cells #[.slice (some ⟨go47,0,none⟩) x150000_31.length co47,.int .i64 a1_1,.int .i64 a1_2] 32 (0,0))):=⟨by (with_reducible repeat (first|refine blk_drewN ?_ _|refine blk_drew ?_|refine blk_alloc ?_ _));refine blk_far ?_ (by have h_:=Kd.R_ne HO_150000.out BK144.out (by decide);intro e_;exact h_ (by rw [e_];rfl)) _;(with_reducible repeat (first|refine blk_drewN ?_ _|refine blk_drew ?_|refine blk_alloc ?_ _));exact BK144.out⟩
       have n3_ : Aside0 ((w51.setCell ⟨go47,(x32_1 : Int).toNat * 3 + 2,none⟩ (.bool (rdOf false l3 x32_1))).heap[gb145]? = some (.cells #[.slice none 0 0,.int .i64 0,.int .i64 0] 32 (0,0))):=⟨by (with_reducible repeat (first|refine blk_drewN ?_ _|refine blk_drew ?_|refine blk_alloc ?_ _));refine blk_far ?_ (by have h_:=Kd.R_ne HO_150000.out BK145.out (by decide);intro e_;exact h_ (by rw [e_];rfl)) _;(with_reducible repeat (first|refine blk_drewN ?_ _|refine blk_drew ?_|refine blk_alloc ?_ _));exact BK145.out⟩
       have n4_ : Aside0 ((w51.setCell ⟨go47,(x32_1 : Int).toNat * 3 + 2,none⟩ (.bool (rdOf false l3 x32_1))).heap[gb149]? = some (.cells #[.slice (some ⟨go47,0,none⟩) x150000_31.length co47] 30 (0,0))):=⟨by (with_reducible repeat (first|refine blk_drewN ?_ _|refine blk_drew ?_|refine blk_alloc ?_ _));refine blk_far ?_ (by have h_:=Kd.R_ne HO_150000.out BK149.out (by decide);intro e_;exact h_ (by rw [e_];rfl)) _;(with_reducible repeat (first|refine blk_drewN ?_ _|refine blk_drew ?_|refine blk_alloc ?_ _));exact BK149.out⟩
       have n5_ : Aside0 (Below w.heap.size w (w51.setCell ⟨go47,(x32_1 : Int).toNat * 3 + 2,none⟩ (.bool (rdOf false l3 x32_1)))):=⟨by repeat (first|(with_reducible first|exact HB.out|apply below_alloc|apply pw_below_drewN|apply below_drew1|refine below_set ?_ GB47.out|refine below_set ?_ GE143.out|refine below_set ?_ GE144.out|refine below_set ?_ GE145.out|refine below_set ?_ GE149.out)|exact HB.out)⟩
       (try clear HO_150000)
       (try clear BK143)
       (try clear BK144)
       (try clear BK145)
       (try clear BK149)
       (try clear HB)
       generalize (w51.setCell ⟨go47,(x32_1 : Int).toNat * 3 + 2,none⟩ (.bool (rdOf false l3 x32_1))) = w53 at n0_ n1_ n2_ n3_ n4_ n5_ ⊢
       have HO_150000:=n0_
       have BK143:=n1_
       have BK144:=n2_
       have BK145:=n3_
       have BK149:=n4_
       have HB:=n5_
       clear n0_ n1_ n2_ n3_ n4_ n5_
       have n0_:=Aside0.mk (Kd.R_drew HO_150000.out)
       have n1_:=Aside0.mk (blk_drew BK143.out)
       have n2_:=Aside0.mk (blk_drew BK144.out)
       have n3_:=Aside0.mk (blk_drew BK145.out)
       have n4_:=Aside0.mk (blk_drew BK149.out)
       have n5_:=Aside0.mk (below_drew1 HB.out)
       clear HO_150000
       clear BK143
       clear BK144
       clear BK145
       clear BK149
       clear HB
       have HO_150000:=n0_
       have BK143:=n1_
       have BK144:=n2_
       have BK145:=n3_
       have BK149:=n4_
       have HB:=n5_
       clear n0_ n1_ n2_ n3_ n4_ n5_
       have p156 : 0 ≤ (x32_1 : Int):=of_decide_eq_true (by first|(with_reducible assumption)|assumption)
       have q156 : x32_1 < (y155.length : Int):=(by have h_ : (x32_1 : Int) < ((x150000_31.length : Int) : Int):=of_decide_eq_true (by first|(with_reducible assumption)|assumption);first|(have e_:=(Kd.R_reads' HO_150000.out).1;omega)|simpa only [Ny155.out,List.length_set] using h_)
       have ql156 : ((x32_1 : Int) < ((x150000_31.length : Int) : Int)) = True:=eq_true (of_decide_eq_true (by first|(with_reducible assumption)|assumption))
       obtain ⟨ad156,e156,hx156_0,hx156_1,hx156_2⟩:=at_T62 (Kd.R_reads' HO_150000.out).2.2 x32_1 p156 q156
       (try rw [← Nbq48.out] at hx156_1)
       (try rw [← Nbq48.out] at hx156_2)
       obtain rfl : (⟨go47,0,none⟩ : Addr) = ad156:=(by injection e156)
       (first|simp only [add_plain] at hx156_0|simp only [add_at] at hx156_0|simp only [Addr.add,Nat.zero_add] at hx156_0|skip)
       (first|simp only [add_plain] at hx156_1|simp only [add_at] at hx156_1|simp only [Addr.add,Nat.zero_add] at hx156_1|skip)
       (first|simp only [add_plain] at hx156_2|simp only [add_at] at hx156_2|simp only [Addr.add,Nat.zero_add] at hx156_2|skip)
       replace p156:=eq_true p156
       replace q156:=eq_true q156
       have p157 : 0 ≤ (x32_1 : Int):=of_decide_eq_true (by first|(with_reducible assumption)|assumption)
       have q157 : x32_1 < (l3.length : Int):=of_decide_eq_true (by first|(with_reducible assumption)|assumption)
       obtain ⟨ad157,e157,hx157_0⟩:=Kd.at_bool HR3.out x32_1 p157 q157
       have hw157_0:=hx157_0
       (try rw [← Nbq48.out] at hx157_0)
       obtain rfl : ad154 = ad157:=(by injection e157)
       replace hx157_0:=(HB.out.cell (World.block_lt_of_cell? w _ hx157_0)).trans hx157_0
       replace p157:=eq_true p157
       replace q157:=eq_true q157
       have p50 : 0 ≤ (x32_1 : Int):=of_decide_eq_true (by first|(with_reducible assumption)|assumption)
       have q50 : (x32_1 : Int) < ((x150000_31.length : Int) : Int):=of_decide_eq_true (by first|(with_reducible assumption)|assumption)
       obtain ⟨ce50,hcl50,hM50,hcc50,hfr50⟩:=Kd.R_elem HO_150000.out z62 (x32_1 : Int) p50 q50
       obtain rfl:=k62_openM hM50
       have hx50_0 : World.cell? _ ⟨go47,(x32_1 : Int).toNat * 3,none⟩ = some (.int .i64 ((rd_T62 y155 x32_1).f0)):=hcc50 0 _ rfl
       have hx50_1 : World.cell? _ ⟨go47,(x32_1 : Int).toNat * 3 + 1,none⟩ = some (.bool ((rd_T62 y155 x32_1).f1)):=hcc50 1 _ rfl
       have hx50_2 : World.cell? _ ⟨go47,(x32_1 : Int).toNat * 3 + 2,none⟩ = some (.bool ((rd_T62 y155 x32_1).f2)):=hcc50 2 _ rfl
       have hf50_0 : World.frozen? _ ⟨go47,(x32_1 : Int).toNat * 3,none⟩ = false:=hfr50 0
       have hf50_1 : World.frozen? _ ⟨go47,(x32_1 : Int).toNat * 3 + 1,none⟩ = false:=hfr50 1
       have hf50_2 : World.frozen? _ ⟨go47,(x32_1 : Int).toNat * 3 + 2,none⟩ = false:=hfr50 2
       clear hcl50 hcc50 hfr50 hM50
       replace p50:=eq_true p50
       replace q50:=eq_true q50
       obtain ⟨ce55,hcl55,hM55,hcc55,hfr55⟩:=Kd.R_elem HO_150000.out z62 (x32_1 : Int) (of_decide_eq_true (by first|(with_reducible assumption)|assumption)) (by have h_ : (x32_1 : Int) < ((x150000_31.length : Int) : Int):=of_decide_eq_true (by first|(with_reducible assumption)|assumption);first|exact h_|(have e_:=(Kd.R_reads' HO_150000.out).1;omega)|simpa using h_)
       obtain rfl:=k62_openM hM55
       have HP55:=(Kd.R_seg HO_150000.out (x32_1 : Int) (of_decide_eq_true (by first|(with_reducible assumption)|assumption)) (by have h_ : (x32_1 : Int) < ((x150000_31.length : Int) : Int):=of_decide_eq_true (by first|(with_reducible assumption)|assumption);first|exact h_|(have e_:=(Kd.R_reads' HO_150000.out).1;omega)|simpa using h_) (seg:=[.bool (!(rdOf false l3 x32_1))]) (j:=1) hcl55 hcc55 (show 2 ≤ 3 from by decide) (x':=(⟨(rd_T62 y155 x32_1).f0,!(rdOf false l3 x32_1),(rd_T62 y155 x32_1).f2⟩ : S62)) (k62_mkM _ _ _ (⟨(rd_T62 y155 x32_1).f0,!(rdOf false l3 x32_1),(rd_T62 y155 x32_1).f2⟩ : S62) ) (fun _ hk => hk)).1
       rw [← Ny158.out] at HP55
       have HQ55:=Aside0.mk HP55
       clear hcl55 hcc55 hfr55 hM55 HP55
       refine start_ (n:=17) (S:=fun w' => w'.cell? ⟨gb149,0,none⟩ = some (.slice (some ⟨go47,0,none⟩) x150000_31.length co47)∧w'.cell? ⟨go47,(x32_1).toNat * 3,none⟩ = some (.int .i64 ((rd_T62 y155 x32_1).f0))∧w'.cell? ⟨go47,(x32_1).toNat * 3 + 1,none⟩ = some (.bool true)∧w'.cell? ⟨go47,(x32_1).toNat * 3 + 2,none⟩ = some (.bool ((rd_T62 y155 x32_1).f2))∧w'.cell? (ad154.add (x32_1).toNat) = some (.bool (rdOf false l3 x32_1))) (ds:=[16]) #[false,false,false,false,false,false,false,false,false,false,false,false,false,false,false,false,false] (by kernel_rfl) rfl rfl ⟨(blk_cell BK149.out 0).trans rfl,hx156_0,hx156_1,hx156_2,((HB.out.cell (World.block_lt_of_cell? w _ hw157_0)).trans hw157_0)⟩ (fun hHeld => ?_);refine with_tabW leadlag_step.tab10 leadlag_step.bits10 (fun HT_ HW_ => ?_)
       generalize w53.drew = w54 at HO_150000 BK143 BK144 BK145 BK149 HB HQ52 HQ55 hf50_0 hf50_1 hf50_2 hx156_0 hx156_1 hx156_2 hx157_0 hx50_0 hx50_1 hx50_2 hHeld ⊢
       refine pure_ (i:=1) (N:=some 60) (v:=?_) (a':=?_) #[false,true,false,false,false,false,false,false,false,false,false,false,false,false,false,false,false] rfl rfl (any_of HT_.out (by kernel_rfl)) (fun _ _ _ h => h) (Or.inl ⟨by rfl,?_⟩) ?_ ?_
       rotate_left;(intro w';go_simp;with_reducible rfl);rotate_left;(simp only [Act.put,List.setIfInBounds_toArray,List.set_cons_zero,List.set_cons_succ,i64_w,i32_w];rfl)
       refine pure_ (i:=3) (N:=some 62) (v:=?_) (a':=?_) #[false,true,false,true,false,false,false,false,false,false,false,false,false,false,false,false,false] rfl rfl (any_of HT_.out (by kernel_rfl)) (fun _ _ _ h => h) (Or.inl ⟨by rfl,?_⟩) ?_ ?_
       rotate_left;(intro w';go_simp;with_reducible rfl);rotate_left;(simp only [Act.put,List.setIfInBounds_toArray,List.set_cons_zero,List.set_cons_succ,i64_w,i32_w];rfl)
       refine take_ (i:=0) (N:=some 59) (v:=?_) (a':=?_) #[true,true,false,true,false,false,false,false,false,false,false,false,false,false,false,false,false] rfl rfl (take_ofW HT_.out HW_.out (by kernel_rfl)) (fun _ _ _ h => h) (Or.inl ⟨by rfl,?_⟩) hHeld ?_ ?_
       rotate_left;(rintro w' ⟨s0,s1,s2,s3,s4⟩;go_simp;with_reducible rfl);rotate_left;(simp only [Act.put,List.setIfInBounds_toArray,List.set_cons_zero,List.set_cons_succ,i64_w,i32_w];rfl)
       refine take_ (i:=2) (N:=some 61) (v:=?_) (a':=?_) #[true,true,true,true,false,false,false,false,false,false,false,false,false,false,false,false,false] rfl rfl (take_ofW HT_.out HW_.out (by kernel_rfl)) (fun _ _ _ h => h) (Or.inl ⟨by rfl,?_⟩) hHeld ?_ ?_
       rotate_left;(rintro w' ⟨s0,s1,s2,s3,s4⟩;go_simp;with_reducible rfl);rotate_left;(simp only [Act.put,List.setIfInBounds_toArray,List.set_cons_zero,List.set_cons_succ,i64_w,i32_w];rfl)
       refine pure_ (i:=4) (N:=some 63) (v:=?_) (a':=?_) #[true,true,true,true,true,false,false,false,false,false,false,false,false,false,false,false,false] rfl rfl (any_of HT_.out (by kernel_rfl)) (fun _ _ _ h => h) (Or.inl ⟨by rfl,?_⟩) ?_ ?_
       rotate_left;(intro w';go_simp;with_reducible rfl);rotate_left;(simp only [Act.put,List.setIfInBounds_toArray,List.set_cons_zero,List.set_cons_succ,i64_w,i32_w];rfl)
       refine pure_ (i:=5) (N:=some 64) (v:=?_) (a':=?_) #[true,true,true,true,true,true,false,false,false,false,false,false,false,false,false,false,false] rfl rfl (any_of HT_.out (by kernel_rfl)) (fun _ _ _ h => h) (Or.inl ⟨by rfl,?_⟩) ?_ ?_
       rotate_left;(intro w';go_simp;with_reducible rfl);rotate_left;(simp only [Act.put,List.setIfInBounds_toArray,List.set_cons_zero,List.set_cons_succ,i64_w,i32_w];rfl)
       refine take_ (i:=6) (N:=some 65) (v:=?_) (a':=?_) #[true,true,true,true,true,true,true,false,false,false,false,false,false,false,false,false,false] rfl rfl (take_ofW HT_.out HW_.out (by kernel_rfl)) (fun _ _ _ h => h) (Or.inl ⟨by rfl,?_⟩) hHeld ?_ ?_
       rotate_left;(rintro w' ⟨s0,s1,s2,s3,s4⟩;go_simp;with_reducible rfl);rotate_left;(simp only [Act.put,List.setIfInBounds_toArray,List.set_cons_zero,List.set_cons_succ,i64_w,i32_w];rfl)
       refine pure_ (i:=7) (N:=some 66) (v:=?_) (a':=?_) #[true,true,true,true,true,true,true,true,false,false,false,false,false,false,false,false,false] rfl rfl (any_of HT_.out (by kernel_rfl)) (fun _ _ _ h => h) (Or.inl ⟨by rfl,?_⟩) ?_ ?_
       rotate_left;(intro w';go_simp;with_reducible rfl);rotate_left;(simp only [Act.put,List.setIfInBounds_toArray,List.set_cons_zero,List.set_cons_succ,i64_w,i32_w];rfl)
       refine pure_ (i:=8) (N:=some 67) (v:=?_) (a':=?_) #[true,true,true,true,true,true,true,true,true,false,false,false,false,false,false,false,false] rfl rfl (any_of HT_.out (by kernel_rfl)) (fun _ _ _ h => h) (Or.inl ⟨by rfl,?_⟩) ?_ ?_
       rotate_left;(intro w';go_simp;with_reducible rfl);rotate_left;(simp only [Act.put,List.setIfInBounds_toArray,List.set_cons_zero,List.set_cons_succ,i64_w,i32_w];rfl)
       refine pure_ (i:=9) (N:=some 68) (v:=?_) (a':=?_) #[true,true,true,true,true,true,true,true,true,true,false,false,false,false,false,false,false] rfl rfl (any_of HT_.out (by kernel_rfl)) (fun _ _ _ h => h) (Or.inl ⟨by rfl,?_⟩) ?_ ?_
       rotate_left;(intro w';go_simp;with_reducible rfl);rotate_left;(simp only [Act.put,List.setIfInBounds_toArray,List.set_cons_zero,List.set_cons_succ,i64_w,i32_w];rfl)
       refine pure_ (i:=10) (N:=some 69) (v:=?_) (a':=?_) #[true,true,true,true,true,true,true,true,true,true,true,false,false,false,false,false,false] rfl rfl (any_of HT_.out (by kernel_rfl)) (fun _ _ _ h => h) (Or.inl ⟨by rfl,?_⟩) ?_ ?_
       rotate_left;(intro w';go_simp;with_reducible rfl);rotate_left;(simp only [Act.put,List.setIfInBounds_toArray,List.set_cons_zero,List.set_cons_succ,i64_w,i32_w];rfl)
       refine take_ (i:=11) (N:=some 70) (v:=?_) (a':=?_) #[true,true,true,true,true,true,true,true,true,true,true,true,false,false,false,false,false] rfl rfl (take_ofW HT_.out HW_.out (by kernel_rfl)) (fun _ _ _ h => h) (Or.inl ⟨by rfl,?_⟩) hHeld ?_ ?_
       rotate_left;(rintro w' ⟨s0,s1,s2,s3,s4⟩;go_simp;with_reducible rfl);rotate_left;(simp only [Act.put,List.setIfInBounds_toArray,List.set_cons_zero,List.set_cons_succ,i64_w,i32_w];rfl)
       refine pure_ (i:=12) (N:=some 71) (v:=?_) (a':=?_) #[true,true,true,true,true,true,true,true,true,true,true,true,true,false,false,false,false] rfl rfl (any_of HT_.out (by kernel_rfl)) (fun _ _ _ h => h) (Or.inl ⟨by rfl,?_⟩) ?_ ?_
       rotate_left;(intro w';go_simp;with_reducible rfl);rotate_left;(simp only [Act.put,List.setIfInBounds_toArray,List.set_cons_zero,List.set_cons_succ,i64_w,i32_w];rfl)
       refine pure_ (i:=13) (N:=some 72) (v:=?_) (a':=?_) #[true,true,true,true,true,true,true,true,true,true,true,true,true,true,false,false,false] rfl rfl (any_of HT_.out (by kernel_rfl)) (fun _ _ _ h => h) (Or.inl ⟨by rfl,?_⟩) ?_ ?_
       rotate_left;(intro w';go_simp;with_reducible rfl);rotate_left;(simp only [Act.put,List.setIfInBounds_toArray,List.set_cons_zero,List.set_cons_succ,i64_w,i32_w];rfl)
       refine pure_ (i:=14) (N:=some 73) (v:=?_) (a':=?_) #[true,true,true,true,true,true,true,true,true,true,true,true,true,true,true,false,false] rfl rfl (any_of HT_.out (by kernel_rfl)) (fun _ _ _ h => h) (Or.inl ⟨by rfl,?_⟩) ?_ ?_
       rotate_left;(intro w';go_simp;with_reducible rfl);rotate_left;(simp only [Act.put,List.setIfInBounds_toArray,List.set_cons_zero,List.set_cons_succ,i64_w,i32_w];rfl)
       refine pure_ (i:=15) (N:=some 74) (v:=?_) (a':=?_) #[true,true,true,true,true,true,true,true,true,true,true,true,true,true,true,true,false] rfl rfl (any_of HT_.out (by kernel_rfl)) (fun _ _ _ h => h) (Or.inl ⟨by rfl,?_⟩) ?_ ?_
       rotate_left;(intro w';go_simp;with_reducible rfl);rotate_left;(simp only [Act.put,List.setIfInBounds_toArray,List.set_cons_zero,List.set_cons_succ,i64_w,i32_w];rfl)
       refine last_ (i:=16) (N:=none) #[true,true,true,true,true,true,true,true,true,true,true,true,true,true,true,true,true] rfl rfl (one_of HT_.out (by kernel_rfl)) (by decide) (fun K hK => ?_)
       refine skip_ (w1:=?_) (by rfl) rfl ?_ ?_
       rotate_left
       ·go_simp
        rfl
       refine hK.out _ _ ?_
       clear hK K
       refine done_ (done_of HT_.out (by kernel_rfl)) ?_
       try go_wp2
       go_roundg kj31
       case measure => have:=HK1.out;have:=HJ31.out;omega
       case rel => exact ⟨(wrap64 (x32_1 + 1)),(y158),(.slice (some ⟨go47,0,none⟩) x150000_31.length co47),(by first|rfl|(simp;done)|(simp [*];done)),H',⟨by have:=HK1.out;have:=HJ31.out;omega⟩,⟨by (with_reducible repeat (first|apply Kd.R_alloc|apply Kd.R_drewN|apply Kd.R_drew));exact HQ55.out⟩,⟨by (with_reducible repeat (first|refine blk_drewN ?_ _|refine blk_drew ?_|refine blk_alloc ?_ _));refine blk_far ?_ (by have h_:=Kd.R_ne HO_150000.out BK143.out (by decide);intro e_;exact h_ (by rw [e_];rfl)) _;(with_reducible repeat (first|refine blk_drewN ?_ _|refine blk_drew ?_|refine blk_alloc ?_ _));exact BK143.out⟩,⟨by (with_reducible repeat (first|refine blk_drewN ?_ _|refine blk_drew ?_|refine blk_alloc ?_ _));refine blk_far ?_ (by have h_:=Kd.R_ne HO_150000.out BK144.out (by decide);intro e_;exact h_ (by rw [e_];rfl)) _;(with_reducible repeat (first|refine blk_drewN ?_ _|refine blk_drew ?_|refine blk_alloc ?_ _));exact BK144.out⟩,⟨by (with_reducible repeat (first|refine blk_drewN ?_ _|refine blk_drew ?_|refine blk_alloc ?_ _));refine blk_far ?_ (by have h_:=Kd.R_ne HO_150000.out BK145.out (by decide);intro e_;exact h_ (by rw [e_];rfl)) _;(with_reducible repeat (first|refine blk_drewN ?_ _|refine blk_drew ?_|refine blk_alloc ?_ _));exact BK145.out⟩,⟨by (with_reducible repeat (first|refine blk_drewN ?_ _|refine blk_drew ?_|refine blk_alloc ?_ _));refine blk_far ?_ (by have h_:=Kd.R_ne HO_150000.out BK149.out (by decide);intro e_;exact h_ (by rw [e_];rfl)) _;(with_reducible repeat (first|refine blk_drewN ?_ _|refine blk_drew ?_|refine blk_alloc ?_ _));exact BK149.out⟩,⟨by repeat (first|(with_reducible first|exact HB.out|apply below_alloc|apply pw_below_drewN|apply below_drew1|refine below_set ?_ GB47.out|refine below_set ?_ GE143.out|refine below_set ?_ GE144.out|refine below_set ?_ GE145.out|refine below_set ?_ GE149.out)|exact HB.out)⟩⟩
      replace c49:=Bool.eq_false_iff.mpr c49
      subst c49
      have H1 : (leadlag_step.l0 kj31 a2 l3 a4 (y146.length : Int) (wrap64 (x32_1 + 1)) a0_0 a0_1 l1_0 a1_1 a1_2 (y155.set (x32_1 : Int).toNat (⟨(rd_T62 y155 x32_1).f0,false,(rd_T62 y155 x32_1).f2⟩ : S62))) = some (r1,r2,r3):=by rw [if_neg (show ¬ (false = true) by decide)] at H;exact H
      clear H
      have H:=H1
      clear H1
      obtain ⟨y159,hy159⟩ : ∃ y_ : List (S62),y_ = (y155.set (x32_1 : Int).toNat (⟨(rd_T62 y155 x32_1).f0,false,(rd_T62 y155 x32_1).f2⟩ : S62)):=⟨_,rfl⟩
      replace H : (leadlag_step.l0 kj31 a2 l3 a4 (y146.length : Int) (wrap64 (x32_1 + 1)) a0_0 a0_1 l1_0 a1_1 a1_2 y159) = some (r1,r2,r3):=by first|(rw [hy159];with_reducible exact H)|(have H2_:=(Option.bind_some _ _).symm.trans H;rw [hy159];with_reducible exact H2_)|(have H2_:=(Option.bind_some _ _).symm.trans H;with_reducible exact H2_)|with_reducible exact H|(rw [hy159];exact H)|exact H
      have Ny159:=Aside0.mk hy159
      clear hy159
      have H':=Aside0.mk H
      clear H
      try go_wp2
      have n0_:=Aside0.mk (Kd.R_drew HO_150000.out)
      have n1_:=Aside0.mk (blk_drew BK143.out)
      have n2_:=Aside0.mk (blk_drew BK144.out)
      have n3_:=Aside0.mk (blk_drew BK145.out)
      have n4_:=Aside0.mk (blk_drew BK149.out)
      have n5_:=Aside0.mk (below_drew1 HB.out)
      clear HO_150000
      clear BK143
      clear BK144
      clear BK145
      clear BK149
      clear HB
      have HO_150000:=n0_
      have BK143:=n1_
      have BK144:=n2_
      have BK145:=n3_
      have BK149:=n4_
      have HB:=n5_
      clear n0_ n1_ n2_ n3_ n4_ n5_
      have p154 : 0 ≤ (x32_1 : Int):=of_decide_eq_true (by first|(with_reducible assumption)|assumption)
      have q154 : x32_1 < (l3.length : Int):=of_decide_eq_true (by first|(with_reducible assumption)|assumption)
      obtain ⟨ad154,e154,hx154_0⟩:=Kd.at_bool HR3.out x32_1 p154 q154
      have hw154_0:=hx154_0
      (try rw [← Nbq48.out] at hx154_0)
      cases e154
      replace hx154_0:=(HB.out.cell (World.block_lt_of_cell? w _ hx154_0)).trans hx154_0
      replace p154:=eq_true p154
      replace q154:=eq_true q154
      have p47 : 0 ≤ (x32_1 : Int):=of_decide_eq_true (by first|(with_reducible assumption)|assumption)
      have q47 : (x32_1 : Int) < ((x150000_31.length : Int) : Int):=of_decide_eq_true (by first|(with_reducible assumption)|assumption)
      obtain ⟨go47,co47,eo47,gb47,gl47,cl47,HG47⟩:=Kd.R_form HO_150000.out (by omega)
      (first|cases eo47|(injection eo47 with ea_ en_ ec_;(first|subst ea_|(injection ea_ with ea_;subst ea_));subst ec_;clear en_))
      have GB47:=Aside0.mk gb47
      have GG47:=Aside0.mk HG47
      clear gb47 gl47 HG47
      obtain ⟨ce47,hcl47,hM47,hcc47,hfr47⟩:=Kd.R_elem HO_150000.out z62 (x32_1 : Int) p47 q47
      obtain rfl:=k62_openM hM47
      have hx47_0 : World.cell? _ ⟨go47,(x32_1 : Int).toNat * 3,none⟩ = some (.int .i64 ((rd_T62 x150000_31 x32_1).f0)):=hcc47 0 _ rfl
      have hx47_1 : World.cell? _ ⟨go47,(x32_1 : Int).toNat * 3 + 1,none⟩ = some (.bool ((rd_T62 x150000_31 x32_1).f1)):=hcc47 1 _ rfl
      have hx47_2 : World.cell? _ ⟨go47,(x32_1 : Int).toNat * 3 + 2,none⟩ = some (.bool ((rd_T62 x150000_31 x32_1).f2)):=hcc47 2 _ rfl
      have hf47_0 : World.frozen? _ ⟨go47,(x32_1 : Int).toNat * 3,none⟩ = false:=hfr47 0
      have hf47_1 : World.frozen? _ ⟨go47,(x32_1 : Int).toNat * 3 + 1,none⟩ = false:=hfr47 1
      have hf47_2 : World.frozen? _ ⟨go47,(x32_1 : Int).toNat * 3 + 2,none⟩ = false:=hfr47 2
      clear hcl47 hcc47 hfr47 hM47
      replace p47:=eq_true p47
      replace q47:=eq_true q47
      obtain ⟨ce58,hcl58,hM58,hcc58,hfr58⟩:=Kd.R_elem HO_150000.out z62 (x32_1 : Int) (of_decide_eq_true (by first|(with_reducible assumption)|assumption)) (by have h_ : (x32_1 : Int) < ((x150000_31.length : Int) : Int):=of_decide_eq_true (by first|(with_reducible assumption)|assumption);first|exact h_|(have e_:=(Kd.R_reads' HO_150000.out).1;omega)|simpa using h_)
      obtain rfl:=k62_openM hM58
      have HP58:=(Kd.R_seg HO_150000.out (x32_1 : Int) (of_decide_eq_true (by first|(with_reducible assumption)|assumption)) (by have h_ : (x32_1 : Int) < ((x150000_31.length : Int) : Int):=of_decide_eq_true (by first|(with_reducible assumption)|assumption);first|exact h_|(have e_:=(Kd.R_reads' HO_150000.out).1;omega)|simpa using h_) (seg:=[.bool (rdOf false l3 x32_1)]) (j:=2) hcl58 hcc58 (show 3 ≤ 3 from by decide) (x':=(⟨(rd_T62 x150000_31 x32_1).f0,(rd_T62 x150000_31 x32_1).f1,rdOf false l3 x32_1⟩ : S62)) (k62_mkM _ _ _ (⟨(rd_T62 x150000_31 x32_1).f0,(rd_T62 x150000_31 x32_1).f1,rdOf false l3 x32_1⟩ : S62) ) (fun _ hk => hk)).1
      rw [← Ny155.out] at HP58
      have HQ58:=Aside0.mk HP58
      clear hcl58 hcc58 hfr58 hM58 HP58
      refine start_ (n:=9) (S:=fun w' => w'.cell? ⟨gb149,0,none⟩ = some (.slice (some ⟨go47,0,none⟩) x150000_31.length co47)∧w'.cell? (ad154.add (x32_1).toNat) = some (.bool (rdOf false l3 x32_1))) (ds:=[8]) #[false,false,false,false,false,false,false,false,false] (by kernel_rfl) rfl rfl ⟨(blk_cell BK149.out 0).trans rfl,((HB.out.cell (World.block_lt_of_cell? w _ hw154_0)).trans hw154_0)⟩ (fun hHeld => ?_);refine with_tabW leadlag_step.tab9 leadlag_step.bits9 (fun HT_ HW_ => ?_)
      generalize wc.drew = w57 at HO_150000 BK143 BK144 BK145 BK149 HB GG47 HQ58 hf47_0 hf47_1 hf47_2 hx154_0 hx47_0 hx47_1 hx47_2 hHeld ⊢
      refine pure_ (i:=1) (N:=some 52) (v:=?_) (a':=?_) #[false,true,false,false,false,false,false,false,false] rfl rfl (any_of HT_.out (by kernel_rfl)) (fun _ _ _ h => h) (Or.inl ⟨by rfl,?_⟩) ?_ ?_
      rotate_left;(intro w';go_simp;with_reducible rfl);rotate_left;(simp only [Act.put,List.setIfInBounds_toArray,List.set_cons_zero,List.set_cons_succ,i64_w,i32_w];rfl)
      refine pure_ (i:=2) (N:=some 53) (v:=?_) (a':=?_) #[false,true,true,false,false,false,false,false,false] rfl rfl (any_of HT_.out (by kernel_rfl)) (fun _ _ _ h => h) (Or.inl ⟨by rfl,?_⟩) ?_ ?_
      rotate_left;(intro w';go_simp;with_reducible rfl);rotate_left;(simp only [Act.put,List.setIfInBounds_toArray,List.set_cons_zero,List.set_cons_succ,i64_w,i32_w];rfl)
      refine pure_ (i:=3) (N:=some 54) (v:=?_) (a':=?_) #[false,true,true,true,false,false,false,false,false] rfl rfl (any_of HT_.out (by kernel_rfl)) (fun _ _ _ h => h) (Or.inl ⟨by rfl,?_⟩) ?_ ?_
      rotate_left;(intro w';go_simp;with_reducible rfl);rotate_left;(simp only [Act.put,List.setIfInBounds_toArray,List.set_cons_zero,List.set_cons_succ,i64_w,i32_w];rfl)
      refine pure_ (i:=4) (N:=some 55) (v:=?_) (a':=?_) #[false,true,true,true,true,false,false,false,false] rfl rfl (any_of HT_.out (by kernel_rfl)) (fun _ _ _ h => h) (Or.inl ⟨by rfl,?_⟩) ?_ ?_
      rotate_left;(intro w';go_simp;with_reducible rfl);rotate_left;(simp only [Act.put,List.setIfInBounds_toArray,List.set_cons_zero,List.set_cons_succ,i64_w,i32_w];rfl)
      refine take_ (i:=0) (N:=some 51) (v:=?_) (a':=?_) #[true,true,true,true,true,false,false,false,false] rfl rfl (take_ofW HT_.out HW_.out (by kernel_rfl)) (fun _ _ _ h => h) (Or.inl ⟨by rfl,?_⟩) hHeld ?_ ?_
      rotate_left;(rintro w' ⟨s0,s1⟩;go_simp;with_reducible rfl);rotate_left;(simp only [Act.put,List.setIfInBounds_toArray,List.set_cons_zero,List.set_cons_succ,i64_w,i32_w];rfl)
      refine take_ (i:=5) (N:=some 56) (v:=?_) (a':=?_) #[true,true,true,true,true,true,false,false,false] rfl rfl (take_ofW HT_.out HW_.out (by kernel_rfl)) (fun _ _ _ h => h) (Or.inl ⟨by rfl,?_⟩) hHeld ?_ ?_
      rotate_left;(rintro w' ⟨s0,s1⟩;go_simp;with_reducible rfl);rotate_left;(simp only [Act.put,List.setIfInBounds_toArray,List.set_cons_zero,List.set_cons_succ,i64_w,i32_w];rfl)
      refine pure_ (i:=6) (N:=some 57) (v:=?_) (a':=?_) #[true,true,true,true,true,true,true,false,false] rfl rfl (any_of HT_.out (by kernel_rfl)) (fun _ _ _ h => h) (Or.inl ⟨by rfl,?_⟩) ?_ ?_
      rotate_left;(intro w';go_simp;with_reducible rfl);rotate_left;(simp only [Act.put,List.setIfInBounds_toArray,List.set_cons_zero,List.set_cons_succ,i64_w,i32_w];rfl)
      refine pure_ (i:=7) (N:=some 58) (v:=?_) (a':=?_) #[true,true,true,true,true,true,true,true,false] rfl rfl (any_of HT_.out (by kernel_rfl)) (fun _ _ _ h => h) (Or.inl ⟨by rfl,?_⟩) ?_ ?_
      rotate_left;(intro w';go_simp;with_reducible rfl);rotate_left;(simp only [Act.put,List.setIfInBounds_toArray,List.set_cons_zero,List.set_cons_succ,i64_w,i32_w];rfl)
      refine last_ (i:=8) (N:=none) #[true,true,true,true,true,true,true,true,true] rfl rfl (one_of HT_.out (by kernel_rfl)) (by decide) (fun K hK => ?_)
      refine skip_ (w1:=?_) (by rfl) rfl ?_ ?_
      rotate_left
      ·go_simp
       rfl
      refine hK.out _ _ ?_
      clear hK K
      refine done_ (done_of HT_.out (by kernel_rfl)) ?_
      try go_wp2
      have n0_ : Aside0 (Kd.R k62 62 (w57.setCell ⟨go47,(x32_1 : Int).toNat * 3 + 2,none⟩ (.bool (rdOf false l3 x32_1))) w.heap.size (fun _ => True) (.slice (some ⟨go47,0,none⟩) x150000_31.length co47) y155):=⟨by (with_reducible repeat (first|apply Kd.R_alloc|apply Kd.R_drewN|apply Kd.R_drew));exact HQ58.out⟩
      have n1_ : Aside0 ((w57.setCell ⟨go47,(x32_1 : Int).toNat * 3 + 2,none⟩ (.bool (rdOf false l3 x32_1))).heap[gb143]? = some (.cells #[.int .i64 a0_0,.int .i64 a0_1] 43 (0,0))):=⟨by (with_reducible repeat (first|refine blk_drewN ?_ _|refine blk_drew ?_|refine blk_alloc ?_ _));refine blk_far ?_ (by have h_:=Kd.R_ne HO_150000.out BK143.out (by decide);intro e_;exact h_ (by rw [e_];rfl)) _;(with_reducible repeat (first|refine blk_drewN ?_ _|refine blk_drew ?_|refine blk_alloc ?_ _));exact BK143.out⟩
      have n2_ : Aside0 ((w57.setCell ⟨go47,(x32_1 : Int).toNat * 3 + 2,none⟩ (.bool (rdOf false l3 x32_1))).heap[gb144]? = some (.cells #[.slice (some ⟨go47,0,none⟩) x150000_31.length co47,.int .i64 a1_1,.int .i64 a1_2] 32 (0,0))):=⟨by (with_reducible repeat (first|refine blk_drewN ?_ _|refine blk_drew ?_|refine blk_alloc ?_ _));refine blk_far ?_ (by have h_:=Kd.R_ne HO_150000.out BK144.out (by decide);intro e_;exact h_ (by rw [e_];rfl)) _;(with_reducible repeat (first|refine blk_drewN ?_ _|refine blk_drew ?_|refine blk_alloc ?_ _));exact BK144.out⟩
      have n3_ : Aside0 ((w57.setCell ⟨go47,(x32_1 : Int).toNat * 3 + 2,none⟩ (.bool (rdOf false l3 x32_1))).heap[gb145]? = some (.cells #[.slice none 0 0,.int .i64 0,.int .i64 0] 32 (0,0))):=⟨by (with_reducible repeat (first|refine blk_drewN ?_ _|refine blk_drew ?_|refine blk_alloc ?_ _));refine blk_far ?_ (by have h_:=Kd.R_ne HO_150000.out BK145.out (by decide);intro e_;exact h_ (by rw [e_];rfl)) _;(with_reducible repeat (first|refine blk_drewN ?_ _|refine blk_drew ?_|refine blk_alloc ?_ _));exact BK145.out⟩
      have n4_ : Aside0 ((w57.setCell ⟨go47,(x32_1 : Int).toNat * 3 + 2,none⟩ (.bool (rdOf false l3 x32_1))).heap[gb149]? = some (.cells #[.slice (some ⟨go47,0,none⟩) x150000_31.length co47] 30 (0,0))):=⟨by (with_reducible repeat (first|refine blk_drewN ?_ _|refine blk_drew ?_|refine blk_alloc ?_ _));refine blk_far ?_ (by have h_:=Kd.R_ne HO_150000.out BK149.out (by decide);intro e_;exact h_ (by rw [e_];rfl)) _;(with_reducible repeat (first|refine blk_drewN ?_ _|refine blk_drew ?_|refine blk_alloc ?_ _));exact BK149.out⟩
      have n5_ : Aside0 (Below w.heap.size w (w57.setCell ⟨go47,(x32_1 : Int).toNat * 3 + 2,none⟩ (.bool (rdOf false l3 x32_1)))):=⟨by repeat (first|(with_reducible first|exact HB.out|apply below_alloc|apply pw_below_drewN|apply below_drew1|refine below_set ?_ GB47.out|refine below_set ?_ GE143.out|refine below_set ?_ GE144.out|refine below_set ?_ GE145.out|refine below_set ?_ GE149.out)|exact HB.out)⟩
      (try clear HO_150000)
      (try clear BK143)
      (try clear BK144)
      (try clear BK145)
      (try clear BK149)
      (try clear HB)
      generalize (w57.setCell ⟨go47,(x32_1 : Int).toNat * 3 + 2,none⟩ (.bool (rdOf false l3 x32_1))) = w59 at n0_ n1_ n2_ n3_ n4_ n5_ ⊢
      have HO_150000:=n0_
      have BK143:=n1_
      have BK144:=n2_
      have BK145:=n3_
      have BK149:=n4_
      have HB:=n5_
      clear n0_ n1_ n2_ n3_ n4_ n5_
      have n0_:=Aside0.mk (Kd.R_drew HO_150000.out)
      have n1_:=Aside0.mk (blk_drew BK143.out)
      have n2_:=Aside0.mk (blk_drew BK144.out)
      have n3_:=Aside0.mk (blk_drew BK145.out)
      have n4_:=Aside0.mk (blk_drew BK149.out)
      have n5_:=Aside0.mk (below_drew1 HB.out)
      clear HO_150000
      clear BK143
      clear BK144
      clear BK145
      clear BK149
      clear HB
      have HO_150000:=n0_
      have BK143:=n1_
      have BK144:=n2_
      have BK145:=n3_
      have BK149:=n4_
      have HB:=n5_
      clear n0_ n1_ n2_ n3_ n4_ n5_
      have p156 : 0 ≤ (x32_1 : Int):=of_decide_eq_true (by first|(with_reducible assumption)|assumption)
      have q156 : x32_1 < (y155.length : Int):=(by have h_ : (x32_1 : Int) < ((x150000_31.length : Int) : Int):=of_decide_eq_true (by first|(with_reducible assumption)|assumption);first|(have e_:=(Kd.R_reads' HO_150000.out).1;omega)|simpa only [Ny155.out,List.length_set] using h_)
      have ql156 : ((x32_1 : Int) < ((x150000_31.length : Int) : Int)) = True:=eq_true (of_decide_eq_true (by first|(with_reducible assumption)|assumption))
      obtain ⟨ad156,e156,hx156_0,hx156_1,hx156_2⟩:=at_T62 (Kd.R_reads' HO_150000.out).2.2 x32_1 p156 q156
      (try rw [← Nbq48.out] at hx156_1)
      (try rw [← Nbq48.out] at hx156_2)
      obtain rfl : (⟨go47,0,none⟩ : Addr) = ad156:=(by injection e156)
      (first|simp only [add_plain] at hx156_0|simp only [add_at] at hx156_0|simp only [Addr.add,Nat.zero_add] at hx156_0|skip)
      (first|simp only [add_plain] at hx156_1|simp only [add_at] at hx156_1|simp only [Addr.add,Nat.zero_add] at hx156_1|skip)
      (first|simp only [add_plain] at hx156_2|simp only [add_at] at hx156_2|simp only [Addr.add,Nat.zero_add] at hx156_2|skip)
      replace p156:=eq_true p156
      replace q156:=eq_true q156
      have p56 : 0 ≤ (x32_1 : Int):=of_decide_eq_true (by first|(with_reducible assumption)|assumption)
      have q56 : (x32_1 : Int) < ((x150000_31.length : Int) : Int):=of_decide_eq_true (by first|(with_reducible assumption)|assumption)
      obtain ⟨ce56,hcl56,hM56,hcc56,hfr56⟩:=Kd.R_elem HO_150000.out z62 (x32_1 : Int) p56 q56
      obtain rfl:=k62_openM hM56
      have hx56_0 : World.cell? _ ⟨go47,(x32_1 : Int).toNat * 3,none⟩ = some (.int .i64 ((rd_T62 y155 x32_1).f0)):=hcc56 0 _ rfl
      have hx56_1 : World.cell? _ ⟨go47,(x32_1 : Int).toNat * 3 + 1,none⟩ = some (.bool ((rd_T62 y155 x32_1).f1)):=hcc56 1 _ rfl
      have hx56_2 : World.cell? _ ⟨go47,(x32_1 : Int).toNat * 3 + 2,none⟩ = some (.bool ((rd_T62 y155 x32_1).f2)):=hcc56 2 _ rfl
      have hf56_0 : World.frozen? _ ⟨go47,(x32_1 : Int).toNat * 3,none⟩ = false:=hfr56 0
      have hf56_1 : World.frozen? _ ⟨go47,(x32_1 : Int).toNat * 3 + 1,none⟩ = false:=hfr56 1
      have hf56_2 : World.frozen? _ ⟨go47,(x32_1 : Int).toNat * 3 + 2,none⟩ = false:=hfr56 2
      clear hcl56 hcc56 hfr56 hM56
      replace p56:=eq_true p56
      replace q56:=eq_true q56
      obtain ⟨ce61,hcl61,hM61,hcc61,hfr61⟩:=Kd.R_elem HO_150000.out z62 (x32_1 : Int) (of_decide_eq_true (by first|(with_reducible assumption)|assumption)) (by have h_ : (x32_1 : Int) < ((x150000_31.length : Int) : Int):=of_decide_eq_true (by first|(with_reducible assumption)|assumption);first|exact h_|(have e_:=(Kd.R_reads' HO_150000.out).1;omega)|simpa using h_)
      obtain rfl:=k62_openM hM61
      have HP61:=(Kd.R_seg HO_150000.out (x32_1 : Int) (of_decide_eq_true (by first|(with_reducible assumption)|assumption)) (by have h_ : (x32_1 : Int) < ((x150000_31.length : Int) : Int):=of_decide_eq_true (by first|(with_reducible assumption)|assumption);first|exact h_|(have e_:=(Kd.R_reads' HO_150000.out).1;omega)|simpa using h_) (seg:=[.bool false]) (j:=1) hcl61 hcc61 (show 2 ≤ 3 from by decide) (x':=(⟨(rd_T62 y155 x32_1).f0,false,(rd_T62 y155 x32_1).f2⟩ : S62)) (k62_mkM_of _ _ _ (⟨(rd_T62 y155 x32_1).f0,false,(rd_T62 y155 x32_1).f2⟩ : S62) (by first|rfl|exact k62_cons3 (congrArg Value.bool Nbq38.out.symm)|exact k62_cons3 (congrArg Value.bool Nbq48.out.symm))) (fun _ hk => hk)).1
      rw [← Ny159.out] at HP61
      have HQ61:=Aside0.mk HP61
      clear hcl61 hcc61 hfr61 hM61 HP61
      refine start_ (n:=17) (S:=fun w' => w'.cell? ⟨gb149,0,none⟩ = some (.slice (some ⟨go47,0,none⟩) x150000_31.length co47)∧w'.cell? ⟨go47,(x32_1).toNat * 3,none⟩ = some (.int .i64 ((rd_T62 y155 x32_1).f0))∧w'.cell? ⟨go47,(x32_1).toNat * 3 + 1,none⟩ = some (.bool false)∧w'.cell? ⟨go47,(x32_1).toNat * 3 + 2,none⟩ = some (.bool ((rd_T62 y155 x32_1).f2))) (ds:=[16]) #[false,false,false,false,false,false,false,false,false,false,false,false,false,false,false,false,false] (by kernel_rfl) rfl rfl ⟨(blk_cell BK149.out 0).trans rfl,hx156_0,hx156_1,hx156_2⟩ (fun hHeld => ?_);refine with_tabW leadlag_step.tab10 leadlag_step.bits10 (fun HT_ HW_ => ?_)
      generalize w59.drew = w60 at HO_150000 BK143 BK144 BK145 BK149 HB HQ58 HQ61 hf56_0 hf56_1 hf56_2 hx156_0 hx156_1 hx156_2 hx56_0 hx56_1 hx56_2 hHeld ⊢
      refine pure_ (i:=1) (N:=some 60) (v:=?_) (a':=?_) #[false,true,false,false,false,false,false,false,false,false,false,false,false,false,false,false,false] rfl rfl (any_of HT_.out (by kernel_rfl)) (fun _ _ _ h => h) (Or.inl ⟨by rfl,?_⟩) ?_ ?_
      rotate_left;(intro w';go_simp;with_reducible rfl);rotate_left;(simp only [Act.put,List.setIfInBounds_toArray,List.set_cons_zero,List.set_cons_succ,i64_w,i32_w];rfl)
      refine pure_ (i:=3) (N:=some 62) (v:=?_) (a':=?_) #[false,true,false,true,false,false,false,false,false,false,false,false,false,false,false,false,false] rfl rfl (any_of HT_.out (by kernel_rfl)) (fun _ _ _ h => h) (Or.inl ⟨by rfl,?_⟩) ?_ ?_
      rotate_left;(intro w';go_simp;with_reducible rfl);rotate_left;(simp only [Act.put,List.setIfInBounds_toArray,List.set_cons_zero,List.set_cons_succ,i64_w,i32_w];rfl)
      refine take_ (i:=0) (N:=some 59) (v:=?_) (a':=?_) #[true,true,false,true,false,false,false,false,false,false,false,false,false,false,false,false,false] rfl rfl (take_ofW HT_.out HW_.out (by kernel_rfl)) (fun _ _ _ h => h) (Or.inl ⟨by rfl,?_⟩) hHeld ?_ ?_
      rotate_left;(rintro w' ⟨s0,s1,s2,s3⟩;go_simp;with_reducible rfl);rotate_left;(simp only [Act.put,List.setIfInBounds_toArray,List.set_cons_zero,List.set_cons_succ,i64_w,i32_w];rfl)
      refine take_ (i:=2) (N:=some 61) (v:=?_) (a':=?_) #[true,true,true,true,false,false,false,false,false,false,false,false,false,false,false,false,false] rfl rfl (take_ofW HT_.out HW_.out (by kernel_rfl)) (fun _ _ _ h => h) (Or.inl ⟨by rfl,?_⟩) hHeld ?_ ?_
      rotate_left;(rintro w' ⟨s0,s1,s2,s3⟩;go_simp;with_reducible rfl);rotate_left;(simp only [Act.put,List.setIfInBounds_toArray,List.set_cons_zero,List.set_cons_succ,i64_w,i32_w];rfl)
      refine pure_ (i:=4) (N:=some 63) (v:=?_) (a':=?_) #[true,true,true,true,true,false,false,false,false,false,false,false,false,false,false,false,false] rfl rfl (any_of HT_.out (by kernel_rfl)) (fun _ _ _ h => h) (Or.inl ⟨by rfl,?_⟩) ?_ ?_
      rotate_left;(intro w';go_simp;with_reducible rfl);rotate_left;(simp only [Act.put,List.setIfInBounds_toArray,List.set_cons_zero,List.set_cons_succ,i64_w,i32_w];rfl)
      refine pure_ (i:=5) (N:=some 64) (v:=?_) (a':=?_) #[true,true,true,true,true,true,false,false,false,false,false,false,false,false,false,false,false] rfl rfl (any_of HT_.out (by kernel_rfl)) (fun _ _ _ h => h) (Or.inl ⟨by rfl,?_⟩) ?_ ?_
      rotate_left;(intro w';go_simp;with_reducible rfl);rotate_left;(simp only [Act.put,List.setIfInBounds_toArray,List.set_cons_zero,List.set_cons_succ,i64_w,i32_w];rfl)
      refine take_ (i:=6) (N:=some 65) (v:=?_) (a':=?_) #[true,true,true,true,true,true,true,false,false,false,false,false,false,false,false,false,false] rfl rfl (take_ofW HT_.out HW_.out (by kernel_rfl)) (fun _ _ _ h => h) (Or.inl ⟨by rfl,?_⟩) hHeld ?_ ?_
      rotate_left;(rintro w' ⟨s0,s1,s2,s3⟩;go_simp;with_reducible rfl);rotate_left;(simp only [Act.put,List.setIfInBounds_toArray,List.set_cons_zero,List.set_cons_succ,i64_w,i32_w];rfl)
      refine pure_ (i:=7) (N:=some 66) (v:=?_) (a':=?_) #[true,true,true,true,true,true,true,true,false,false,false,false,false,false,false,false,false] rfl rfl (any_of HT_.out (by kernel_rfl)) (fun _ _ _ h => h) (Or.inl ⟨by rfl,?_⟩) ?_ ?_
      rotate_left;(intro w';go_simp;with_reducible rfl);rotate_left;(simp only [Act.put,List.setIfInBounds_toArray,List.set_cons_zero,List.set_cons_succ,i64_w,i32_w];rfl)
      refine pure_ (i:=8) (N:=some 67) (v:=undef) (a':=?_) #[true,true,true,true,true,true,true,true,true,false,false,false,false,false,false,false,false] rfl rfl (any_of HT_.out (by kernel_rfl)) (fun _ _ _ h => h) (Or.inr ⟨by rfl,rfl⟩) ?_ ?_
      rotate_left
      ·simp only [Act.put,List.setIfInBounds_toArray,List.set_cons_zero,List.set_cons_succ,i64_w,i32_w]
       rfl
      refine pure_ (i:=9) (N:=some 68) (v:=undef) (a':=?_) #[true,true,true,true,true,true,true,true,true,true,false,false,false,false,false,false,false] rfl rfl (any_of HT_.out (by kernel_rfl)) (fun _ _ _ h => h) (Or.inr ⟨by rfl,rfl⟩) ?_ ?_
      rotate_left
      ·simp only [Act.put,List.setIfInBounds_toArray,List.set_cons_zero,List.set_cons_succ,i64_w,i32_w]
       rfl
      refine pure_ (i:=10) (N:=some 69) (v:=undef) (a':=?_) #[true,true,true,true,true,true,true,true,true,true,true,false,false,false,false,false,false] rfl rfl (any_of HT_.out (by kernel_rfl)) (fun _ _ _ h => h) (Or.inr ⟨by rfl,rfl⟩) ?_ ?_
      rotate_left
      ·simp only [Act.put,List.setIfInBounds_toArray,List.set_cons_zero,List.set_cons_succ,i64_w,i32_w]
       rfl
      refine pure_ (i:=11) (N:=some 70) (v:=undef) (a':=?_) #[true,true,true,true,true,true,true,true,true,true,true,true,false,false,false,false,false] rfl rfl (any_of HT_.out (by kernel_rfl)) (fun _ _ _ h => h) (Or.inr ⟨by rfl,rfl⟩) ?_ ?_
      rotate_left
      ·simp only [Act.put,List.setIfInBounds_toArray,List.set_cons_zero,List.set_cons_succ,i64_w,i32_w]
       rfl
      refine pure_ (i:=12) (N:=some 71) (v:=undef) (a':=?_) #[true,true,true,true,true,true,true,true,true,true,true,true,true,false,false,false,false] rfl rfl (any_of HT_.out (by kernel_rfl)) (fun _ _ _ h => h) (Or.inr ⟨by rfl,rfl⟩) ?_ ?_
      rotate_left
      ·simp only [Act.put,List.setIfInBounds_toArray,List.set_cons_zero,List.set_cons_succ,i64_w,i32_w]
       rfl
      refine pure_ (i:=13) (N:=some 72) (v:=?_) (a':=?_) #[true,true,true,true,true,true,true,true,true,true,true,true,true,true,false,false,false] rfl rfl (any_of HT_.out (by kernel_rfl)) (fun _ _ _ h => h) (Or.inl ⟨by rfl,?_⟩) ?_ ?_
      rotate_left;(intro w';go_simp;with_reducible rfl);rotate_left;(simp only [Act.put,List.setIfInBounds_toArray,List.set_cons_zero,List.set_cons_succ,i64_w,i32_w];rfl)
      refine pure_ (i:=14) (N:=some 73) (v:=?_) (a':=?_) #[true,true,true,true,true,true,true,true,true,true,true,true,true,true,true,false,false] rfl rfl (any_of HT_.out (by kernel_rfl)) (fun _ _ _ h => h) (Or.inl ⟨by rfl,?_⟩) ?_ ?_
      rotate_left;(intro w';go_simp;with_reducible rfl);rotate_left;(simp only [Act.put,List.setIfInBounds_toArray,List.set_cons_zero,List.set_cons_succ,i64_w,i32_w];rfl)
      refine pure_ (i:=15) (N:=some 74) (v:=?_) (a':=?_) #[true,true,true,true,true,true,true,true,true,true,true,true,true,true,true,true,false] rfl rfl (any_of HT_.out (by kernel_rfl)) (fun _ _ _ h => h) (Or.inl ⟨by rfl,?_⟩) ?_ ?_
      rotate_left;(intro w';go_simp;with_reducible rfl);rotate_left;(simp only [Act.put,List.setIfInBounds_toArray,List.set_cons_zero,List.set_cons_succ,i64_w,i32_w];rfl)
      refine last_ (i:=16) (N:=none) #[true,true,true,true,true,true,true,true,true,true,true,true,true,true,true,true,true] rfl rfl (one_of HT_.out (by kernel_rfl)) (by decide) (fun K hK => ?_)
      refine skip_ (w1:=?_) (by rfl) rfl ?_ ?_
      rotate_left
      ·go_simp
       rfl
      refine hK.out _ _ ?_
      clear hK K
      refine done_ (done_of HT_.out (by kernel_rfl)) ?_
      try go_wp2
      go_roundg kj31
      case measure => have:=HK1.out;have:=HJ31.out;omega
      case rel => exact ⟨(wrap64 (x32_1 + 1)),(y159),(.slice (some ⟨go47,0,none⟩) x150000_31.length co47),(by first|rfl|(simp;done)|(simp [*];done)),H',⟨by have:=HK1.out;have:=HJ31.out;omega⟩,⟨by (with_reducible repeat (first|apply Kd.R_alloc|apply Kd.R_drewN|apply Kd.R_drew));exact HQ61.out⟩,⟨by (with_reducible repeat (first|refine blk_drewN ?_ _|refine blk_drew ?_|refine blk_alloc ?_ _));refine blk_far ?_ (by have h_:=Kd.R_ne HO_150000.out BK143.out (by decide);intro e_;exact h_ (by rw [e_];rfl)) _;(with_reducible repeat (first|refine blk_drewN ?_ _|refine blk_drew ?_|refine blk_alloc ?_ _));exact BK143.out⟩,⟨by (with_reducible repeat (first|refine blk_drewN ?_ _|refine blk_drew ?_|refine blk_alloc ?_ _));refine blk_far ?_ (by have h_:=Kd.R_ne HO_150000.out BK144.out (by decide);intro e_;exact h_ (by rw [e_];rfl)) _;(with_reducible repeat (first|refine blk_drewN ?_ _|refine blk_drew ?_|refine blk_alloc ?_ _));exact BK144.out⟩,⟨by (with_reducible repeat (first|refine blk_drewN ?_ _|refine blk_drew ?_|refine blk_alloc ?_ _));refine blk_far ?_ (by have h_:=Kd.R_ne HO_150000.out BK145.out (by decide);intro e_;exact h_ (by rw [e_];rfl)) _;(with_reducible repeat (first|refine blk_drewN ?_ _|refine blk_drew ?_|refine blk_alloc ?_ _));exact BK145.out⟩,⟨by (with_reducible repeat (first|refine blk_drewN ?_ _|refine blk_drew ?_|refine blk_alloc ?_ _));refine blk_far ?_ (by have h_:=Kd.R_ne HO_150000.out BK149.out (by decide);intro e_;exact h_ (by rw [e_];rfl)) _;(with_reducible repeat (first|refine blk_drewN ?_ _|refine blk_drew ?_|refine blk_alloc ?_ _));exact BK149.out⟩,⟨by repeat (first|(with_reducible first|exact HB.out|apply below_alloc|apply pw_below_drewN|apply below_drew1|refine below_set ?_ GB47.out|refine below_set ?_ GE143.out|refine below_set ?_ GE144.out|refine below_set ?_ GE145.out|refine below_set ?_ GE149.out)|exact HB.out)⟩⟩
   rw [if_neg c29] at H
   have c29b0 : decide (x32_1 < (y146.length : Int)) = false:=decide_eq_false c29
   clear c29
   replace H:=Option.bind_eq_some_iff.mp H
   obtain ⟨t160,A620,H⟩:=H
   replace H : ((leadlag_Order.f k1 x150000_1 a1_1 a1_2).bind fun t161 => (if a4 ≥ (wrap64 (a1_2 + a0_0)) then ((leadlag_countOn.f k1 x150000_1 a1_1 a1_2).bind fun t164 => (leadlag_step.l1 k1 a4 (mx 0 (mn a2 t160)) t161 (mn (mx 0 (mn a2 t160)) t164) t161 (t161.length : Int) 0 a0_0 a0_1 l1_0 a1_1 a1_2 x150000_1)) else (leadlag_step.l2 k1 a4 (mx 0 (mn a2 t160)) t161 (wrap64 ((t161.length : Int) - 1)) a0_0 a0_1 l1_0 a1_1 a1_2 x150000_1))) = some (r1,r2,r3):=H
   have A62:=Aside0.mk A620
   clear A620
   obtain ⟨ji63,hji63⟩ : ∃ j_ : Int,(mn a2 t160) = j_:=⟨_,rfl⟩
   replace H : ((leadlag_Order.f k1 x150000_1 a1_1 a1_2).bind fun t161 => (if a4 ≥ (wrap64 (a1_2 + a0_0)) then ((leadlag_countOn.f k1 x150000_1 a1_1 a1_2).bind fun t164 => (leadlag_step.l1 k1 a4 (mx 0 (ji63)) t161 (mn (mx 0 (ji63)) t164) t161 (t161.length : Int) 0 a0_0 a0_1 l1_0 a1_1 a1_2 x150000_1)) else (leadlag_step.l2 k1 a4 (mx 0 (ji63)) t161 (wrap64 ((t161.length : Int) - 1)) a0_0 a0_1 l1_0 a1_1 a1_2 x150000_1))) = some (r1,r2,r3):=by first|(rw [hji63] at H;exact H)|(simp only [hji63] at H ⊢;exact H)
   (try rw [hji63] at A62)
   have hji63_ : (if t160 < a2 then t160 else a2) = ji63:=hji63
   obtain ⟨ji64,hji64⟩ : ∃ j_ : Int,(mx 0 (ji63)) = j_:=⟨_,rfl⟩
   replace H : ((leadlag_Order.f k1 x150000_1 a1_1 a1_2).bind fun t161 => (if a4 ≥ (wrap64 (a1_2 + a0_0)) then ((leadlag_countOn.f k1 x150000_1 a1_1 a1_2).bind fun t164 => (leadlag_step.l1 k1 a4 ji64 t161 (mn (ji64) t164) t161 (t161.length : Int) 0 a0_0 a0_1 l1_0 a1_1 a1_2 x150000_1)) else (leadlag_step.l2 k1 a4 ji64 t161 (wrap64 ((t161.length : Int) - 1)) a0_0 a0_1 l1_0 a1_1 a1_2 x150000_1))) = some (r1,r2,r3):=by first|(rw [hji64] at H;exact H)|(simp only [hji64] at H ⊢;exact H)
   (try rw [hji64] at A62)
   have hji64_ : (if 0 < (ji63) then (ji63) else 0) = ji64:=hji64
   replace H:=Option.bind_eq_some_iff.mp H
   obtain ⟨t161,A650,H⟩:=H
   replace H : (if a4 ≥ (wrap64 (a1_2 + a0_0)) then ((leadlag_countOn.f k1 x150000_1 a1_1 a1_2).bind fun t164 => (leadlag_step.l1 k1 a4 ji64 t161 (mn (ji64) t164) t161 (t161.length : Int) 0 a0_0 a0_1 l1_0 a1_1 a1_2 x150000_1)) else (leadlag_step.l2 k1 a4 ji64 t161 (wrap64 ((t161.length : Int) - 1)) a0_0 a0_1 l1_0 a1_1 a1_2 x150000_1)) = some (r1,r2,r3):=H
   have A65:=Aside0.mk A650
   clear A650
   have HC66:=Aside0.mk H
   clear H
   have hnb67:=NB144_143.out
   have hnc67:=NB143_144.out
   have hnb68:=NB144_145.out
   have hnc68:=NB145_144.out
   have hnb69:=NB144_149.out
   have hnc69:=NB149_144.out
   have hcz70_0 : wr.cell? ⟨gb144,0,none⟩ = some (u150000):=(blk_cell BK144.out 0).trans rfl
   have hcz70_1 : wr.cell? ⟨gb144,1,none⟩ = some (.int .i64 a1_1):=(blk_cell BK144.out 1).trans rfl
   have hcz70_2 : wr.cell? ⟨gb144,2,none⟩ = some (.int .i64 a1_2):=(blk_cell BK144.out 2).trans rfl
   have hfz70_0:=blk_frozen BK144.out 0
   have hfz70_1:=blk_frozen BK144.out 1
   have hfz70_2:=blk_frozen BK144.out 2
   obtain ⟨Ao71,co71,eo71⟩:=Kd.R_slice HO_150000.out
   subst eo71
   go_upto_if 89 with (first|((with_reducible refine gate_callee (f:=39) rfl ?_);refine goesL_ (some 78) rfl rfl Try.func39 (by kernel_rfl) rfl #[.agg #[.slice Ao71 x150000_1.length co71,.int .i64 a1_1,.int .i64 a1_2],.func (.func 48) #[] #[]] rfl (by (try simp only [List.map_toArray,List.map_cons,List.map_nil]);first|done|rfl|(simp only [List.length_drop,List.length_take];rfl)) ?_;(with_reducible refine (leadlag_countWell.calls k1 _ _ x150000_1 a1_1 a1_2 t160 _ ?side1 ?side2 A62.out).mono ?_);(case side1 => repeat (first|exact (Kd.R_reads' HO_150000.out).2.2|(with_reducible refine Kd.C_alloc ?_ _)|(with_reducible refine Kd.C_drewN ?_ _)|(with_reducible refine Kd.C_drew ?_)));(case side2 => exact (Kd.R_reads' HO_150000.out).2.1);rintro e w72 ⟨rfl,hb⟩;refine ⟨_,rfl,?_⟩;have n0_:=Aside0.mk (Kd.R_below (by (with_reducible repeat (first|apply Kd.R_alloc|apply Kd.R_drewN|apply Kd.R_drew));exact HO_150000.out) hb);have n1_:=Aside0.mk (blk_below (g:=gb143) (o:=.cells #[.int .i64 a0_0,.int .i64 a0_1] 43 (0,0)) (by (with_reducible repeat (first|refine blk_drewN ?_ _|refine blk_drew ?_|refine blk_alloc ?_ _));exact BK143.out) hb);have n2_:=Aside0.mk (blk_below (g:=gb144) (o:=.cells #[.slice Ao71 x150000_1.length co71,.int .i64 a1_1,.int .i64 a1_2] 32 (0,0)) (by (with_reducible repeat (first|refine blk_drewN ?_ _|refine blk_drew ?_|refine blk_alloc ?_ _));exact BK144.out) hb);have n3_:=Aside0.mk (blk_below (g:=gb145) (o:=.cells #[.slice none 0 0,.int .i64 0,.int .i64 0] 32 (0,0)) (by (with_reducible repeat (first|refine blk_drewN ?_ _|refine blk_drew ?_|refine blk_alloc ?_ _));exact BK145.out) hb);have n4_:=Aside0.mk (blk_below (g:=gb149) (o:=.cells #[.slice Ao71 x150000_1.length co71] 30 (0,0)) (by (with_reducible repeat (first|refine blk_drewN ?_ _|refine blk_drew ?_|refine blk_alloc ?_ _));exact BK149.out) hb);have n5_:=Aside0.mk (below_step (by repeat (first|(with_reducible first|exact HB.out|apply below_alloc|apply pw_below_drewN|apply below_drew1|refine below_set ?_ GE143.out|refine below_set ?_ GE144.out|refine below_set ?_ GE145.out|refine below_set ?_ GE149.out)|exact HB.out)) hb);clear HO_150000;clear BK143;clear BK144;clear BK145;clear BK149;clear HB;have HO_150000:=n0_;have BK143:=n1_;have BK144:=n2_;have BK145:=n3_;have BK149:=n4_;have HB:=n5_;clear n0_ n1_ n2_ n3_ n4_ n5_;(try clear hb);(try clear hb2);(try clear hk);(try clear hi);have hcz73_0 : w72.cell? ⟨gb144,0,none⟩ = some (.slice Ao71 x150000_1.length co71):=(blk_cell BK144.out 0).trans rfl;have hcz73_1 : w72.cell? ⟨gb144,1,none⟩ = some (.int .i64 a1_1):=(blk_cell BK144.out 1).trans rfl;have hcz73_2 : w72.cell? ⟨gb144,2,none⟩ = some (.int .i64 a1_2):=(blk_cell BK144.out 2).trans rfl;have hfz73_0:=blk_frozen BK144.out 0;have hfz73_1:=blk_frozen BK144.out 1;have hfz73_2:=blk_frozen BK144.out 2)|((with_reducible refine gate_callee (f:=20) rfl ?_);refine goesL_ (some 82) rfl rfl Try.func20 (by kernel_rfl) rfl #[.agg #[.slice Ao71 x150000_1.length co71,.int .i64 a1_1,.int .i64 a1_2]] rfl (by (try simp only [List.map_toArray,List.map_cons,List.map_nil]);first|done|rfl|(simp only [List.length_drop,List.length_take];rfl)) ?_;(with_reducible refine (leadlag_Order.calls k1 _ _ x150000_1 a1_1 a1_2 t161 _ ?side1 ?side2 A65.out).mono ?_);(case side1 => repeat (first|exact (Kd.R_reads' HO_150000.out).2.2|(with_reducible refine Kd.C_alloc ?_ _)|(with_reducible refine Kd.C_drewN ?_ _)|(with_reducible refine Kd.C_drew ?_)));(case side2 => exact (Kd.R_reads' HO_150000.out).2.1);rintro e w74 ⟨v162,rfl,ho0,hb⟩;refine ⟨_,rfl,?_⟩;have n0_:=Aside0.mk (Kd.R_below (by (with_reducible repeat (first|apply Kd.R_alloc|apply Kd.R_drewN|apply Kd.R_drew));exact HO_150000.out) hb);have n1_:=Aside0.mk (Kd.R_lower ho0 (below_size (by repeat (first|(with_reducible first|exact HB.out|apply below_alloc|apply pw_below_drewN|apply below_drew1|refine below_set ?_ GE143.out|refine below_set ?_ GE144.out|refine below_set ?_ GE145.out|refine below_set ?_ GE149.out)|exact HB.out))));have n2_:=Aside0.mk (blk_below (g:=gb143) (o:=.cells #[.int .i64 a0_0,.int .i64 a0_1] 43 (0,0)) (by (with_reducible repeat (first|refine blk_drewN ?_ _|refine blk_drew ?_|refine blk_alloc ?_ _));exact BK143.out) hb);have n3_:=Aside0.mk (blk_below (g:=gb144) (o:=.cells #[.slice Ao71 x150000_1.length co71,.int .i64 a1_1,.int .i64 a1_2] 32 (0,0)) (by (with_reducible repeat (first|refine blk_drewN ?_ _|refine blk_drew ?_|refine blk_alloc ?_ _));exact BK144.out) hb);have n4_:=Aside0.mk (blk_below (g:=gb145) (o:=.cells #[.slice none 0 0,.int .i64 0,.int .i64 0] 32 (0,0)) (by (with_reducible repeat (first|refine blk_drewN ?_ _|refine blk_drew ?_|refine blk_alloc ?_ _));exact BK145.out) hb);have n5_:=Aside0.mk (blk_below (g:=gb149) (o:=.cells #[.slice Ao71 x150000_1.length co71] 30 (0,0)) (by (with_reducible repeat (first|refine blk_drewN ?_ _|refine blk_drew ?_|refine blk_alloc ?_ _));exact BK149.out) hb);have n6_:=Aside0.mk (below_step (by repeat (first|(with_reducible first|exact HB.out|apply below_alloc|apply pw_below_drewN|apply below_drew1|refine below_set ?_ GE143.out|refine below_set ?_ GE144.out|refine below_set ?_ GE145.out|refine below_set ?_ GE149.out)|exact HB.out)) hb);clear HO_150000;clear BK143;clear BK144;clear BK145;clear BK149;clear HB;have HO_150000:=n0_;have HO163:=n1_;have BK143:=n2_;have BK144:=n3_;have BK145:=n4_;have BK149:=n5_;have HB:=n6_;clear n0_ n1_ n2_ n3_ n4_ n5_ n6_;(try clear hb);(try clear hb2);(try clear hk);(try clear hi);(try clear ho0);have hcz75_0 : w74.cell? ⟨gb144,0,none⟩ = some (.slice Ao71 x150000_1.length co71):=(blk_cell BK144.out 0).trans rfl;have hcz75_1 : w74.cell? ⟨gb144,1,none⟩ = some (.int .i64 a1_1):=(blk_cell BK144.out 1).trans rfl;have hcz75_2 : w74.cell? ⟨gb144,2,none⟩ = some (.int .i64 a1_2):=(blk_cell BK144.out 2).trans rfl;have hfz75_0:=blk_frozen BK144.out 0;have hfz75_1:=blk_frozen BK144.out 1;have hfz75_2:=blk_frozen BK144.out 2;have hnb76:=NB143_145.out;have hnc76:=NB145_143.out;have hnb77:=NB143_149.out;have hnc77:=NB149_143.out;have hcz78_0 : w74.cell? ⟨gb143,0,none⟩ = some (.int .i64 a0_0):=(blk_cell BK143.out 0).trans rfl;have hcz78_1 : w74.cell? ⟨gb143,1,none⟩ = some (.int .i64 a0_1):=(blk_cell BK143.out 1).trans rfl;have hfz78_0:=blk_frozen BK143.out 0;have hfz78_1:=blk_frozen BK143.out 1))
   (try simp only [Act.put,List.setIfInBounds_toArray,List.set_cons_zero,List.set_cons_succ])
   go_cut [] (fun wc => ∃ (kq : Nat) (x145002_65 : Int) (x150000_65 : List (S62)) (u150000 : Value),Aside0 (leadlag_step.j4 kq a4 ji64 t161 a0_0 a0_1 l1_0 a1_1 x145002_65 x150000_65 = some (r1,r2,r3))∧Aside0 (kq ≤ k1)∧Aside0 (Kd.R (Kd.int .i64) 3 wc w.heap.size (fun _ => True) v162 t161)∧Aside0 (Kd.R k62 62 wc w.heap.size (fun _ => True) u150000 x150000_65)∧Aside0 (wc.heap[gb143]? = some (.cells #[.int .i64 a0_0,.int .i64 a0_1] 43 (0,0)))∧Aside0 (wc.heap[gb144]? = some (.cells #[u150000,.int .i64 a1_1,.int .i64 x145002_65] 32 (0,0)))∧Aside0 (wc.heap[gb145]? = some (.cells #[(.slice none 0 0),.int .i64 0,.int .i64 0] 32 (0,0)))∧Aside0 (wc.heap[gb149]? = some (.cells #[u150000] 30 (0,0)))∧Aside0 (Below w.heap.size w wc))
   case first =>
    have H:=HC66.out
    clear HC66
    by_cases c79 : a4 ≥ (wrap64 (a1_2 + a0_0))
    ·rw [if_pos c79] at H
     have c79b0 : decide ((wrap64 (a1_2 + a0_0)) ≤ a4) = true:=decide_eq_true c79
     clear c79
     (first|rw [c79b0]|(simp only [i64_w,i32_w];rw [c79b0])|skip)
     replace H:=Option.bind_eq_some_iff.mp H
     obtain ⟨t164,A800,H⟩:=H
     replace H : (leadlag_step.l1 k1 a4 ji64 t161 (mn (ji64) t164) t161 (t161.length : Int) 0 a0_0 a0_1 l1_0 a1_1 a1_2 x150000_1) = some (r1,r2,r3):=H
     have A80:=Aside0.mk A800
     clear A800
     obtain ⟨ji81,hji81⟩ : ∃ j_ : Int,(mn (ji64) t164) = j_:=⟨_,rfl⟩
     replace H : (leadlag_step.l1 k1 a4 ji64 t161 ji81 t161 (t161.length : Int) 0 a0_0 a0_1 l1_0 a1_1 a1_2 x150000_1) = some (r1,r2,r3):=by first|(rw [hji81] at H;exact H)|(simp only [hji81] at H ⊢;exact H)
     (try rw [hji81] at A80)
     have hji81_ : (if t164 < (ji64) then t164 else (ji64)) = ji81:=hji81
     have H':=Aside0.mk H
     clear H
     have hnb82:=NB144_143.out
     have hnc82:=NB143_144.out
     have hnb83:=NB144_145.out
     have hnc83:=NB145_144.out
     have hnb84:=NB144_149.out
     have hnc84:=NB149_144.out
     have hcz85_0 : w74.cell? ⟨gb144,0,none⟩ = some (.slice Ao71 x150000_1.length co71):=(blk_cell BK144.out 0).trans rfl
     have hcz85_1 : w74.cell? ⟨gb144,1,none⟩ = some (.int .i64 a1_1):=(blk_cell BK144.out 1).trans rfl
     have hcz85_2 : w74.cell? ⟨gb144,2,none⟩ = some (.int .i64 a1_2):=(blk_cell BK144.out 2).trans rfl
     have hfz85_0:=blk_frozen BK144.out 0
     have hfz85_1:=blk_frozen BK144.out 1
     have hfz85_2:=blk_frozen BK144.out 2
     go_wp2_with (first|((with_reducible refine gate_callee (f:=39) rfl ?_);refine goesL_ (some 92) rfl rfl Try.func39 (by kernel_rfl) rfl #[.agg #[.slice Ao71 x150000_1.length co71,.int .i64 a1_1,.int .i64 a1_2],.func (.func 40) #[] #[]] rfl (by (try simp only [List.map_toArray,List.map_cons,List.map_nil]);first|done|rfl|(simp only [List.length_drop,List.length_take];rfl)) ?_;(with_reducible refine (leadlag_countOn.calls k1 _ _ x150000_1 a1_1 a1_2 t164 _ ?side1 ?side2 A80.out).mono ?_);(case side1 => repeat (first|exact (Kd.R_reads' HO_150000.out).2.2|(with_reducible refine Kd.C_alloc ?_ _)|(with_reducible refine Kd.C_drewN ?_ _)|(with_reducible refine Kd.C_drew ?_)));(case side2 => exact (Kd.R_reads' HO_150000.out).2.1);rintro e w86 ⟨rfl,hb⟩;refine ⟨_,rfl,?_⟩;have n0_:=Aside0.mk (Kd.R_below (by (with_reducible repeat (first|apply Kd.R_alloc|apply Kd.R_drewN|apply Kd.R_drew));exact HO_150000.out) hb);have n1_:=Aside0.mk (Kd.R_below (by (with_reducible repeat (first|apply Kd.R_alloc|apply Kd.R_drewN|apply Kd.R_drew));exact HO163.out) hb);have n2_:=Aside0.mk (blk_below (g:=gb143) (o:=.cells #[.int .i64 a0_0,.int .i64 a0_1] 43 (0,0)) (by (with_reducible repeat (first|refine blk_drewN ?_ _|refine blk_drew ?_|refine blk_alloc ?_ _));exact BK143.out) hb);have n3_:=Aside0.mk (blk_below (g:=gb144) (o:=.cells #[.slice Ao71 x150000_1.length co71,.int .i64 a1_1,.int .i64 a1_2] 32 (0,0)) (by (with_reducible repeat (first|refine blk_drewN ?_ _|refine blk_drew ?_|refine blk_alloc ?_ _));exact BK144.out) hb);have n4_:=Aside0.mk (blk_below (g:=gb145) (o:=.cells #[.slice none 0 0,.int .i64 0,.int .i64 0] 32 (0,0)) (by (with_reducible repeat (first|refine blk_drewN ?_ _|refine blk_drew ?_|refine blk_alloc ?_ _));exact BK145.out) hb);have n5_:=Aside0.mk (blk_below (g:=gb149) (o:=.cells #[.slice Ao71 x150000_1.length co71] 30 (0,0)) (by (with_reducible repeat (first|refine blk_drewN ?_ _|refine blk_drew ?_|refine blk_alloc ?_ _));exact BK149.out) hb);have n6_:=Aside0.mk (below_step (by repeat (first|(with_reducible first|exact HB.out|apply below_alloc|apply pw_below_drewN|apply below_drew1|refine below_set ?_ GE143.out|refine below_set ?_ GE144.out|refine below_set ?_ GE145.out|refine below_set ?_ GE149.out)|exact HB.out)) hb);clear HO_150000;clear HO163;clear BK143;clear BK144;clear BK145;clear BK149;clear HB;have HO_150000:=n0_;have HO163:=n1_;have BK143:=n2_;have BK144:=n3_;have BK145:=n4_;have BK149:=n5_;have HB:=n6_;clear n0_ n1_ n2_ n3_ n4_ n5_ n6_;(try clear hb);(try clear hb2);(try clear hk);(try clear hi);obtain ⟨Ao87,co87,eo87⟩:=Kd.R_slice HO163.out;subst eo87))
     go_loopg [96] k1 (fun kq v96 w' => ∃ (x96_2 : Int) (x150000_2 : List (S62)) (u150000 : Value),v96 = .int .i64 x96_2∧Aside0 (leadlag_step.l1 kq a4 ji64 t161 ji81 t161 (t161.length : Int) x96_2 a0_0 a0_1 l1_0 a1_1 a1_2 x150000_2 = some (r1,r2,r3))∧Aside0 (kq ≤ k1)∧Aside0 (Kd.R (Kd.int .i64) 3 w' w.heap.size (fun _ => True) (.slice Ao87 t161.length co87) t161)∧Aside0 (Kd.R (Kd.int .i64) 3 w' w.heap.size (fun _ => True) (.slice Ao87 t161.length co87) t161)∧Aside0 (Kd.R k62 62 w' w.heap.size (fun _ => True) u150000 x150000_2)∧Aside0 (w'.heap[gb143]? = some (.cells #[.int .i64 a0_0,.int .i64 a0_1] 43 (0,0)))∧Aside0 (w'.heap[gb144]? = some (.cells #[u150000,.int .i64 a1_1,.int .i64 a1_2] 32 (0,0)))∧Aside0 (w'.heap[gb145]? = some (.cells #[(.slice none 0 0),.int .i64 0,.int .i64 0] 32 (0,0)))∧Aside0 (w'.heap[gb149]? = some (.cells #[u150000] 30 (0,0)))∧Aside0 (Below w.heap.size w w'))
     case atStart => exact ⟨(0),(x150000_1),(.slice Ao71 x150000_1.length co71),(by first|rfl|(simp;done)|(simp [*];done)),H',⟨Nat.le_refl _⟩,⟨by (with_reducible repeat (first|apply Kd.R_alloc|apply Kd.R_drewN|apply Kd.R_drew));exact HO163.out⟩,⟨by (with_reducible repeat (first|apply Kd.R_alloc|apply Kd.R_drewN|apply Kd.R_drew));exact HO163.out⟩,⟨by (with_reducible repeat (first|apply Kd.R_alloc|apply Kd.R_drewN|apply Kd.R_drew));exact HO_150000.out⟩,⟨by (with_reducible repeat (first|refine blk_drewN ?_ _|refine blk_drew ?_|refine blk_alloc ?_ _));exact BK143.out⟩,⟨by (with_reducible repeat (first|refine blk_drewN ?_ _|refine blk_drew ?_|refine blk_alloc ?_ _));exact BK144.out⟩,⟨by (with_reducible repeat (first|refine blk_drewN ?_ _|refine blk_drew ?_|refine blk_alloc ?_ _));exact BK145.out⟩,⟨by (with_reducible repeat (first|refine blk_drewN ?_ _|refine blk_drew ?_|refine blk_alloc ?_ _));exact BK149.out⟩,⟨by repeat (first|(with_reducible first|exact HB.out|apply below_alloc|apply pw_below_drewN|apply below_drew1|refine below_set ?_ GE143.out|refine below_set ?_ GE144.out|refine below_set ?_ GE145.out|refine below_set ?_ GE149.out)|exact HB.out)⟩⟩
     case round =>
      clear H'
      (try clear p1);(try clear q1);(try clear hx1);(try clear c2);(try clear p2);(try clear c3);(try clear c4);(try clear p4);(try clear q4);(try clear hx4);(try clear c5);(try clear p5);(try clear q5);(try clear hx5);(try clear hf5);(try clear c6);(try clear p6);(try clear c7);(try clear c8);(try clear p15);(try clear q15);(try clear hx15);(try clear c20);(try clear c29);(try clear c29b0);(try clear c30);(try clear c31);(try clear c44);(try clear c45);(try clear c46);(try clear c47);(try clear p47);(try clear q47);(try clear hx47);(try clear hf47);(try clear q48);(try clear c49);(try clear c50);(try clear p50);(try clear q50);(try clear hx50);(try clear hf50);(try clear c55);(try clear c56);(try clear p56);(try clear q56);(try clear hx56);(try clear hf56);(try clear c58);(try clear c61);(try clear p64);(try clear c67);(try clear c68);(try clear c69);(try clear c72);(try clear c73);(try clear c76);(try clear c77);(try clear c79);(try clear c79b0);(try clear c82);(try clear c83);(try clear c84);(try clear hcz70_0);(try clear hcz70_1);(try clear hcz70_2);(try clear hcz73_0);(try clear hcz73_1);(try clear hcz73_2);(try clear hcz75_0);(try clear hcz75_1);(try clear hcz75_2);(try clear hcz78_0);(try clear hcz78_1);(try clear hcz85_0);(try clear hcz85_1);(try clear hcz85_2);(try clear hfz70_0);(try clear hfz70_1);(try clear hfz70_2);(try clear hfz73_0);(try clear hfz73_1);(try clear hfz73_2);(try clear hfz75_0);(try clear hfz75_1);(try clear hfz75_2);(try clear hfz78_0);(try clear hfz78_1);(try clear hfz85_0);(try clear hfz85_1);(try clear hfz85_2);(try clear hx154_0);(try clear hx156_0);(try clear hx156_1);(try clear hx156_2);(try clear hx157_0);(try clear hx47_0);(try clear hx47_1);(try clear hx47_2);(try clear hx50_0);(try clear hx50_1);(try clear hx50_2);(try clear hx56_0);(try clear hx56_1);(try clear hx56_2);(try clear p154);(try clear p156);(try clear p157);(try clear p47);(try clear p50);(try clear p56);(try clear q154);(try clear q156);(try clear q157);(try clear q47);(try clear q50);(try clear q56)
      obtain ⟨x96_2,x150000_2,u150000,rfl,HA,HK2,HO_14,HO_94,HO_150000,BK143,BK144,BK145,BK149,HB⟩:=hrel
      cases gk with
      | zero => exact absurd HA.out (by simp [leadlag_step.l1])
      | succ k2 =>
       have H:=HA.out
       clear HA
       simp only [leadlag_step.l1] at H
       by_cases c88 : x96_2 < (t161.length : Int)
       rotate_left
       ·rw [if_neg c88] at H
        have c88b0 : decide (x96_2 < (t161.length : Int)) = false:=decide_eq_false c88
        clear c88
        have H':=Aside0.mk H
        clear H
        have hnb100:=NB144_143.out
        have hnc100:=NB143_144.out
        have hnb101:=NB144_145.out
        have hnc101:=NB145_144.out
        have hnb102:=NB144_149.out
        have hnc102:=NB149_144.out
        have hcz103_0 : wr.cell? ⟨gb144,0,none⟩ = some (u150000):=(blk_cell BK144.out 0).trans rfl
        have hcz103_1 : wr.cell? ⟨gb144,1,none⟩ = some (.int .i64 a1_1):=(blk_cell BK144.out 1).trans rfl
        have hcz103_2 : wr.cell? ⟨gb144,2,none⟩ = some (.int .i64 a1_2):=(blk_cell BK144.out 2).trans rfl
        have hfz103_0:=blk_frozen BK144.out 0
        have hfz103_1:=blk_frozen BK144.out 1
        have hfz103_2:=blk_frozen BK144.out 2
        go_wp2
        go_meet
        case rel => exact ⟨_,(a4),(x150000_2),(u150000),H',⟨by have:=HK1.out;have:=HK2.out;first|omega|exact Nat.le_refl _⟩,⟨by (with_reducible repeat (first|apply Kd.R_alloc|apply Kd.R_drewN|apply Kd.R_drew));exact Kd.R_mono (Kd.R_far (p:=⟨gb144,2,none⟩) (Kd.R_types HO_14.out BK144.out (by decide)) (fun _ hk => hk.2) (.int .i64 a4)) (fun _ hk => trivial)⟩,⟨by (with_reducible repeat (first|apply Kd.R_alloc|apply Kd.R_drewN|apply Kd.R_drew));exact Kd.R_mono (Kd.R_far (p:=⟨gb144,2,none⟩) (Kd.R_types HO_150000.out BK144.out (by decide)) (fun _ hk => hk.2) (.int .i64 a4)) (fun _ hk => trivial)⟩,⟨by (with_reducible repeat (first|refine blk_drewN ?_ _|refine blk_drew ?_|refine blk_alloc ?_ _));refine blk_far ?_ NB143_144.out _;(with_reducible repeat (first|refine blk_drewN ?_ _|refine blk_drew ?_|refine blk_alloc ?_ _));exact BK143.out⟩,⟨by (with_reducible repeat (first|refine blk_drewN ?_ _|refine blk_drew ?_|refine blk_alloc ?_ _));refine blk_put (cs:=#[u150000,.int .i64 a1_1,.int .i64 a1_2]) ?_ 2 _ rfl;(with_reducible repeat (first|refine blk_drewN ?_ _|refine blk_drew ?_|refine blk_alloc ?_ _));exact BK144.out⟩,⟨by (with_reducible repeat (first|refine blk_drewN ?_ _|refine blk_drew ?_|refine blk_alloc ?_ _));refine blk_far ?_ NB145_144.out _;(with_reducible repeat (first|refine blk_drewN ?_ _|refine blk_drew ?_|refine blk_alloc ?_ _));exact BK145.out⟩,⟨by (with_reducible repeat (first|refine blk_drewN ?_ _|refine blk_drew ?_|refine blk_alloc ?_ _));refine blk_far ?_ NB149_144.out _;(with_reducible repeat (first|refine blk_drewN ?_ _|refine blk_drew ?_|refine blk_alloc ?_ _));exact BK149.out⟩,⟨by repeat (first|(with_reducible first|exact HB.out|apply below_alloc|apply pw_below_drewN|apply below_drew1|refine below_set ?_ GE143.out|refine below_set ?_ GE144.out|refine below_set ?_ GE145.out|refine below_set ?_ GE149.out)|exact HB.out)⟩⟩
       rw [if_pos c88] at H
       have c88b0 : decide (x96_2 < (t161.length : Int)) = true:=decide_eq_true c88
       clear c88
       by_cases c89 : 0 ≤ x96_2
       rotate_left
       ·rw [if_neg c89] at H
        exact absurd H (by simp)
       rw [if_pos c89] at H
       have c89b0 : decide (0 ≤ x96_2) = true:=decide_eq_true c89
       clear c89
       by_cases c90 : x96_2 < (t161.length : Int)
       rotate_left
       ·rw [if_neg c90] at H
        exact absurd H (by simp)
       rw [if_pos c90] at H
       have c90b0 : decide (x96_2 < (t161.length : Int)) = true:=decide_eq_true c90
       clear c90
       by_cases c91 : 0 ≤ (rd t161 x96_2)
       rotate_left
       ·rw [if_neg c91] at H
        exact absurd H (by simp)
       rw [if_pos c91] at H
       have c91b0 : decide (0 ≤ (rd t161 x96_2)) = true:=decide_eq_true c91
       clear c91
       by_cases c92 : (rd t161 x96_2) < (x150000_2.length : Int)
       rotate_left
       ·rw [if_neg c92] at H
        exact absurd H (by simp)
       rw [if_pos c92] at H
       have c92b0 : decide ((rd t161 x96_2) < (x150000_2.length : Int)) = true:=decide_eq_true c92
       clear c92
       obtain ⟨y166,hy166⟩ : ∃ y_ : List (S62),y_ = (x150000_2.set ((rd t161 x96_2) : Int).toNat (⟨(rd_T62 x150000_2 (rd t161 x96_2)).f0,decide (x96_2 < ji81),(rd_T62 x150000_2 (rd t161 x96_2)).f2⟩ : S62)):=⟨_,rfl⟩
       replace H : (leadlag_step.l1 k2 a4 ji64 t161 ji81 t161 (t161.length : Int) (wrap64 (x96_2 + 1)) a0_0 a0_1 l1_0 a1_1 a1_2 y166) = some (r1,r2,r3):=by first|(rw [hy166];with_reducible exact H)|(have H2_:=(Option.bind_some _ _).symm.trans H;rw [hy166];with_reducible exact H2_)|(have H2_:=(Option.bind_some _ _).symm.trans H;with_reducible exact H2_)|with_reducible exact H|(rw [hy166];exact H)|exact H
       have Ny166:=Aside0.mk hy166
       clear hy166
       have H':=Aside0.mk H
       clear H
       have p165 : 0 ≤ (x96_2 : Int):=of_decide_eq_true (by first|(with_reducible assumption)|assumption)
       have q165 : x96_2 < (t161.length : Int):=of_decide_eq_true (by first|(with_reducible assumption)|assumption)
       obtain ⟨ad165,e165,hx165_0⟩:=Kd.at_int (Kd.R_reads' HO_94.out).2.2 x96_2 p165 q165
       cases e165
       replace p165:=eq_true p165
       replace q165:=eq_true q165
       have hnb94:=NB149_143.out
       have hnc94:=NB143_149.out
       have hnb95:=NB149_144.out
       have hnc95:=NB144_149.out
       have hnb96:=NB149_145.out
       have hnc96:=NB145_149.out
       have hcz97_0 : wr.cell? ⟨gb149,0,none⟩ = some (u150000):=(blk_cell BK149.out 0).trans rfl
       have hfz97_0:=blk_frozen BK149.out 0
       have p93 : 0 ≤ ((rd t161 x96_2) : Int):=of_decide_eq_true (by first|(with_reducible assumption)|assumption)
       have q93 : ((rd t161 x96_2) : Int) < ((x150000_2.length : Int) : Int):=of_decide_eq_true (by first|(with_reducible assumption)|assumption)
       obtain ⟨go93,co93,eo93,gb93,gl93,cl93,HG93⟩:=Kd.R_form HO_150000.out (by omega)
       (first|cases eo93|(injection eo93 with ea_ en_ ec_;(first|subst ea_|(injection ea_ with ea_;subst ea_));subst ec_;clear en_))
       have GB93:=Aside0.mk gb93
       have GG93:=Aside0.mk HG93
       clear gb93 gl93 HG93
       obtain ⟨ce93,hcl93,hM93,hcc93,hfr93⟩:=Kd.R_elem HO_150000.out z62 ((rd t161 x96_2) : Int) p93 q93
       obtain rfl:=k62_openM hM93
       have hx93_0 : wr.cell? ⟨go93,((rd t161 x96_2) : Int).toNat * 3,none⟩ = some (.int .i64 ((rd_T62 x150000_2 (rd t161 x96_2)).f0)):=hcc93 0 _ rfl
       have hx93_1 : wr.cell? ⟨go93,((rd t161 x96_2) : Int).toNat * 3 + 1,none⟩ = some (.bool ((rd_T62 x150000_2 (rd t161 x96_2)).f1)):=hcc93 1 _ rfl
       have hx93_2 : wr.cell? ⟨go93,((rd t161 x96_2) : Int).toNat * 3 + 2,none⟩ = some (.bool ((rd_T62 x150000_2 (rd t161 x96_2)).f2)):=hcc93 2 _ rfl
       have hf93_0 : wr.frozen? ⟨go93,((rd t161 x96_2) : Int).toNat * 3,none⟩ = false:=hfr93 0
       have hf93_1 : wr.frozen? ⟨go93,((rd t161 x96_2) : Int).toNat * 3 + 1,none⟩ = false:=hfr93 1
       have hf93_2 : wr.frozen? ⟨go93,((rd t161 x96_2) : Int).toNat * 3 + 2,none⟩ = false:=hfr93 2
       clear hcl93 hcc93 hfr93 hM93
       replace p93:=eq_true p93
       replace q93:=eq_true q93
       have HX98:=Aside0.mk (show Kd.R k62 62 wr w.heap.size (fun _ => True) (.slice (some ⟨go93,0,none⟩) x150000_2.length co93) x150000_2 from (by (with_reducible repeat (first|apply Kd.R_alloc|apply Kd.R_drewN|apply Kd.R_drew));exact HO_150000.out))
       obtain ⟨ce98,hcl98,hM98,hcc98,hfr98⟩:=Kd.R_elem HX98.out z62 ((rd t161 x96_2) : Int) (of_decide_eq_true (by first|(with_reducible assumption)|assumption)) (by have h_ : ((rd t161 x96_2) : Int) < ((x150000_2.length : Int) : Int):=of_decide_eq_true (by first|(with_reducible assumption)|assumption);first|exact h_|(have e_:=(Kd.R_reads' HO_150000.out).1;omega)|simpa using h_)
       obtain rfl:=k62_openM hM98
       have HP98:=Kd.R_seg HX98.out ((rd t161 x96_2) : Int) (of_decide_eq_true (by first|(with_reducible assumption)|assumption)) (by have h_ : ((rd t161 x96_2) : Int) < ((x150000_2.length : Int) : Int):=of_decide_eq_true (by first|(with_reducible assumption)|assumption);first|exact h_|(have e_:=(Kd.R_reads' HO_150000.out).1;omega)|simpa using h_) (seg:=[.bool (decide (x96_2 < ji81))]) (j:=1) hcl98 hcc98 (show 2 ≤ 3 from by decide) (x':=(⟨(rd_T62 x150000_2 (rd t161 x96_2)).f0,decide (x96_2 < ji81),(rd_T62 x150000_2 (rd t161 x96_2)).f2⟩ : S62)) (k62_mkM _ _ _ (⟨(rd_T62 x150000_2 (rd t161 x96_2)).f0,decide (x96_2 < ji81),(rd_T62 x150000_2 (rd t161 x96_2)).f2⟩ : S62) ) (fun _ hk => hk)
       have hx98_1:=hcc98 1 _ rfl
       (try simp only [show (k62).sz = 3 from rfl,Nat.mul_one,Nat.add_zero] at hx98_1)
       have hf98_1:=hfr98 1
       (try simp only [show (k62).sz = 3 from rfl,Nat.mul_one,Nat.add_zero] at hf98_1)
       clear hcl98 hcc98 hfr98 hM98
       go_wp2_with (first|((with_reducible refine gate_store (t:=4) (p:=107) rfl ?_);refine store_event (t:=4) (p:=107) (v:=?vo_w99) (w1:=(wr.setCell ⟨go93,((rd t161 x96_2) : Int).toNat * 3 + 1,none⟩ (.bool (decide (x96_2 < ji81))))) ?hg ?ho ?hn ?hr ?_;(case ho => rfl);(case hg => rfl);(case hn => rfl);(case hr => first|(go_simp;done)|(go_simp;rfl));intro w99 hw;have hg : wr.grownBy w99 (some go93):=(by rw [hw];exact HP98.2);have hp_ : Kd.R k62 62 w99 w.heap.size (fun _ => True) (.slice (some ⟨go93,0,none⟩) x150000_2.length co93) y166:=(by rw [hw,Ny166.out];exact HP98.1);clear HP98;have n0_:=Aside0.mk (Kd.R_over' (v:=(.slice (some ⟨go93,0,none⟩) x150000_2.length co93)) (by (with_reducible repeat (first|apply Kd.R_alloc|apply Kd.R_drewN|apply Kd.R_drew));exact HO_14.out) (Kd.R_typed HO_150000.out) (by decide) hg);have n1_:=Aside0.mk (Kd.R_over' (v:=(.slice (some ⟨go93,0,none⟩) x150000_2.length co93)) (by (with_reducible repeat (first|apply Kd.R_alloc|apply Kd.R_drewN|apply Kd.R_drew));exact HO_94.out) (Kd.R_typed HO_150000.out) (by decide) hg);have n2_:=Aside0.mk (hp_);have n3_:=Aside0.mk (blk_grown (g:=gb143) (o:=.cells #[.int .i64 a0_0,.int .i64 a0_1] 43 (0,0)) (by (with_reducible repeat (first|refine blk_drewN ?_ _|refine blk_drew ?_|refine blk_alloc ?_ _));exact BK143.out) hg (Kd.R_ne HO_150000.out BK143.out (by decide)));have n4_:=Aside0.mk (blk_grown (g:=gb144) (o:=.cells #[.slice (some ⟨go93,0,none⟩) x150000_2.length co93,.int .i64 a1_1,.int .i64 a1_2] 32 (0,0)) (by (with_reducible repeat (first|refine blk_drewN ?_ _|refine blk_drew ?_|refine blk_alloc ?_ _));exact BK144.out) hg (Kd.R_ne HO_150000.out BK144.out (by decide)));have n5_:=Aside0.mk (blk_grown (g:=gb145) (o:=.cells #[.slice none 0 0,.int .i64 0,.int .i64 0] 32 (0,0)) (by (with_reducible repeat (first|refine blk_drewN ?_ _|refine blk_drew ?_|refine blk_alloc ?_ _));exact BK145.out) hg (Kd.R_ne HO_150000.out BK145.out (by decide)));have n6_:=Aside0.mk (blk_grown (g:=gb149) (o:=.cells #[.slice (some ⟨go93,0,none⟩) x150000_2.length co93] 30 (0,0)) (by (with_reducible repeat (first|refine blk_drewN ?_ _|refine blk_drew ?_|refine blk_alloc ?_ _));exact BK149.out) hg (Kd.R_ne HO_150000.out BK149.out (by decide)));have n7_:=Aside0.mk ((by rw [hw];exact below_set (HB.out) GB93.out : Below w.heap.size w w99));clear HO_14;clear HO_94;clear HO_150000;clear BK143;clear BK144;clear BK145;clear BK149;clear HB;have HO_14:=n0_;have HO_94:=n1_;have HO_150000:=n2_;have BK143:=n3_;have BK144:=n4_;have BK145:=n5_;have BK149:=n6_;have HB:=n7_;clear n0_ n1_ n2_ n3_ n4_ n5_ n6_ n7_;clear hg hw hp_))
       go_roundg k2
       case measure => have:=HK1.out;have:=HK2.out;omega
       case rel => exact ⟨(wrap64 (x96_2 + 1)),(y166),(.slice (some ⟨go93,0,none⟩) x150000_2.length co93),(by first|rfl|(simp;done)|(simp [*];done)),H',⟨by have:=HK1.out;have:=HK2.out;omega⟩,⟨by (with_reducible repeat (first|apply Kd.R_alloc|apply Kd.R_drewN|apply Kd.R_drew));exact HO_14.out⟩,⟨by (with_reducible repeat (first|apply Kd.R_alloc|apply Kd.R_drewN|apply Kd.R_drew));exact HO_94.out⟩,⟨by (with_reducible repeat (first|apply Kd.R_alloc|apply Kd.R_drewN|apply Kd.R_drew));exact HO_150000.out⟩,⟨by (with_reducible repeat (first|refine blk_drewN ?_ _|refine blk_drew ?_|refine blk_alloc ?_ _));exact BK143.out⟩,⟨by (with_reducible repeat (first|refine blk_drewN ?_ _|refine blk_drew ?_|refine blk_alloc ?_ _));exact BK144.out⟩,⟨by (with_reducible repeat (first|refine blk_drewN ?_ _|refine blk_drew ?_|refine blk_alloc ?_ _));exact BK145.out⟩,⟨by (with_reducible repeat (first|refine blk_drewN ?_ _|refine blk_drew ?_|refine blk_alloc ?_ _));exact BK149.out⟩,⟨by repeat (first|(with_reducible first|exact HB.out|apply below_alloc|apply pw_below_drewN|apply below_drew1|refine below_set ?_ GE143.out|refine below_set ?_ GE144.out|refine below_set ?_ GE145.out|refine below_set ?_ GE149.out)|exact HB.out)⟩⟩
    rw [if_neg c79] at H
    have c79b0 : decide ((wrap64 (a1_2 + a0_0)) ≤ a4) = false:=decide_eq_false c79
    clear c79
    (first|rw [c79b0]|(simp only [i64_w,i32_w];rw [c79b0])|skip)
    have H':=Aside0.mk H
    clear H
    obtain ⟨Ao104,co104,eo104⟩:=Kd.R_slice HO163.out
    subst eo104
    go_wp2
    go_loopg [18] k1 (fun kq v18 w' => ∃ (x18_2 : Int) (x150000_2 : List (S62)) (u150000 : Value),v18 = .int .i64 x18_2∧Aside0 (leadlag_step.l2 kq a4 ji64 t161 x18_2 a0_0 a0_1 l1_0 a1_1 a1_2 x150000_2 = some (r1,r2,r3))∧Aside0 (kq ≤ k1)∧Aside0 (Kd.R (Kd.int .i64) 3 w' w.heap.size (fun _ => True) (.slice Ao104 t161.length co104) t161)∧Aside0 (Kd.R k62 62 w' w.heap.size (fun _ => True) u150000 x150000_2)∧Aside0 (w'.heap[gb143]? = some (.cells #[.int .i64 a0_0,.int .i64 a0_1] 43 (0,0)))∧Aside0 (w'.heap[gb144]? = some (.cells #[u150000,.int .i64 a1_1,.int .i64 a1_2] 32 (0,0)))∧Aside0 (w'.heap[gb145]? = some (.cells #[(.slice none 0 0),.int .i64 0,.int .i64 0] 32 (0,0)))∧Aside0 (w'.heap[gb149]? = some (.cells #[u150000] 30 (0,0)))∧Aside0 (Below w.heap.size w w'))
    case atStart => exact ⟨(wrap64 ((t161.length : Int) - 1)),(x150000_1),(.slice Ao71 x150000_1.length co71),(by first|rfl|(simp;done)|(simp [*];done)),H',⟨Nat.le_refl _⟩,⟨by (with_reducible repeat (first|apply Kd.R_alloc|apply Kd.R_drewN|apply Kd.R_drew));exact HO163.out⟩,⟨by (with_reducible repeat (first|apply Kd.R_alloc|apply Kd.R_drewN|apply Kd.R_drew));exact HO_150000.out⟩,⟨by (with_reducible repeat (first|refine blk_drewN ?_ _|refine blk_drew ?_|refine blk_alloc ?_ _));exact BK143.out⟩,⟨by (with_reducible repeat (first|refine blk_drewN ?_ _|refine blk_drew ?_|refine blk_alloc ?_ _));exact BK144.out⟩,⟨by (with_reducible repeat (first|refine blk_drewN ?_ _|refine blk_drew ?_|refine blk_alloc ?_ _));exact BK145.out⟩,⟨by (with_reducible repeat (first|refine blk_drewN ?_ _|refine blk_drew ?_|refine blk_alloc ?_ _));exact BK149.out⟩,⟨by repeat (first|(with_reducible first|exact HB.out|apply below_alloc|apply pw_below_drewN|apply below_drew1|refine below_set ?_ GE143.out|refine below_set ?_ GE144.out|refine below_set ?_ GE145.out|refine below_set ?_ GE149.out)|exact HB.out)⟩⟩
    case round =>
     clear H'
     (try clear c1);(try clear p1);(try clear q1);(try clear hx1);(try clear c2);(try clear p2);(try clear c3);(try clear c4);(try clear p4);(try clear q4);(try clear hx4);(try clear c5);(try clear p5);(try clear q5);(try clear hx5);(try clear hf5);(try clear c6);(try clear p6);(try clear c7);(try clear c8);(try clear c9);(try clear p9);(try clear q9);(try clear hx9);(try clear hf9);(try clear c10);(try clear p15);(try clear q15);(try clear hx15);(try clear p16);(try clear q16);(try clear hx16);(try clear c20);(try clear c29);(try clear c29b0);(try clear c30);(try clear c31);(try clear c44);(try clear c45);(try clear c46);(try clear c47);(try clear p47);(try clear q47);(try clear hx47);(try clear hf47);(try clear q48);(try clear c49);(try clear c50);(try clear p50);(try clear q50);(try clear hx50);(try clear hf50);(try clear c55);(try clear c56);(try clear p56);(try clear q56);(try clear hx56);(try clear hf56);(try clear c58);(try clear c61);(try clear p64);(try clear c67);(try clear c68);(try clear c69);(try clear c72);(try clear c73);(try clear c76);(try clear c77);(try clear c79);(try clear c79b0);(try clear c82);(try clear c83);(try clear c84);(try clear c88);(try clear c88b0);(try clear c89);(try clear c89b0);(try clear c90);(try clear c90b0);(try clear c91);(try clear c91b0);(try clear c92);(try clear c92b0);(try clear c93);(try clear p93);(try clear q93);(try clear hx93);(try clear hf93);(try clear c94);(try clear c95);(try clear c96);(try clear c98);(try clear hx98);(try clear hf98);(try clear c100);(try clear c101);(try clear c102);(try clear hcz103_0);(try clear hcz103_1);(try clear hcz103_2);(try clear hcz70_0);(try clear hcz70_1);(try clear hcz70_2);(try clear hcz73_0);(try clear hcz73_1);(try clear hcz73_2);(try clear hcz75_0);(try clear hcz75_1);(try clear hcz75_2);(try clear hcz78_0);(try clear hcz78_1);(try clear hcz85_0);(try clear hcz85_1);(try clear hcz85_2);(try clear hcz97_0);(try clear hfz103_0);(try clear hfz103_1);(try clear hfz103_2);(try clear hfz70_0);(try clear hfz70_1);(try clear hfz70_2);(try clear hfz73_0);(try clear hfz73_1);(try clear hfz73_2);(try clear hfz75_0);(try clear hfz75_1);(try clear hfz75_2);(try clear hfz78_0);(try clear hfz78_1);(try clear hfz85_0);(try clear hfz85_1);(try clear hfz85_2);(try clear hfz97_0);(try clear hx154_0);(try clear hx156_0);(try clear hx156_1);(try clear hx156_2);(try clear hx157_0);(try clear hx165_0);(try clear hx47_0);(try clear hx47_1);(try clear hx47_2);(try clear hx50_0);(try clear hx50_1);(try clear hx50_2);(try clear hx56_0);(try clear hx56_1);(try clear hx56_2);(try clear hx93_0);(try clear hx93_1);(try clear hx93_2);(try clear hx98_1);(try clear p1);(try clear p15);(try clear p154);(try clear p156);(try clear p157);(try clear p165);(try clear p2);(try clear p4);(try clear p47);(try clear p5);(try clear p50);(try clear p56);(try clear p6);(try clear p64);(try clear p93);(try clear q1);(try clear q15);(try clear q154);(try clear q156);(try clear q157);(try clear q165);(try clear q4);(try clear q47);(try clear q48);(try clear q5);(try clear q50);(try clear q56);(try clear q93)
     obtain ⟨x18_2,x150000_2,u150000,rfl,HA,HK2,HO_14,HO_150000,BK143,BK144,BK145,BK149,HB⟩:=hrel
     cases gk with
     | zero => exact absurd HA.out (by simp [leadlag_step.l2])
     | succ k2 =>
      have H:=HA.out
      clear HA
      simp only [leadlag_step.l2] at H
      by_cases c105 : x18_2 ≥ 0
      rotate_left
      ·rw [if_neg c105] at H
       have c105b0 : decide (0 ≤ x18_2) = false:=decide_eq_false c105
       clear c105
       have H':=Aside0.mk H
       clear H
       go_wp2
       go_meet
       case rel => exact ⟨_,(a1_2),(x150000_2),(u150000),H',⟨by have:=HK1.out;have:=HK2.out;first|omega|exact Nat.le_refl _⟩,⟨by (with_reducible repeat (first|apply Kd.R_alloc|apply Kd.R_drewN|apply Kd.R_drew));exact HO_14.out⟩,⟨by (with_reducible repeat (first|apply Kd.R_alloc|apply Kd.R_drewN|apply Kd.R_drew));exact HO_150000.out⟩,⟨by (with_reducible repeat (first|refine blk_drewN ?_ _|refine blk_drew ?_|refine blk_alloc ?_ _));exact BK143.out⟩,⟨by (with_reducible repeat (first|refine blk_drewN ?_ _|refine blk_drew ?_|refine blk_alloc ?_ _));exact BK144.out⟩,⟨by (with_reducible repeat (first|refine blk_drewN ?_ _|refine blk_drew ?_|refine blk_alloc ?_ _));exact BK145.out⟩,⟨by (with_reducible repeat (first|refine blk_drewN ?_ _|refine blk_drew ?_|refine blk_alloc ?_ _));exact BK149.out⟩,⟨by repeat (first|(with_reducible first|exact HB.out|apply below_alloc|apply pw_below_drewN|apply below_drew1|refine below_set ?_ GE143.out|refine below_set ?_ GE144.out|refine below_set ?_ GE145.out|refine below_set ?_ GE149.out)|exact HB.out)⟩⟩
      rw [if_pos c105] at H
      have c105b0 : decide (0 ≤ x18_2) = true:=decide_eq_true c105
      clear c105
      replace H:=Option.bind_eq_some_iff.mp H
      obtain ⟨t167,A1060,H⟩:=H
      replace H : (if t167 > ji64 then (if 0 ≤ x18_2 then (if x18_2 < (t161.length : Int) then (if 0 ≤ (rd t161 x18_2) then (if (rd t161 x18_2) < (x150000_2.length : Int) then (leadlag_step.l2 k2 a4 ji64 t161 (wrap64 (x18_2 - 1)) a0_0 a0_1 l1_0 a1_1 a1_2 (x150000_2.set ((rd t161 x18_2) : Int).toNat (⟨(rd_T62 x150000_2 (rd t161 x18_2)).f0,false,(rd_T62 x150000_2 (rd t161 x18_2)).f2⟩ : S62))) else (none)) else (none)) else (none)) else (none)) else (leadlag_step.j4 k2 a4 ji64 t161 a0_0 a0_1 l1_0 a1_1 a1_2 x150000_2)) = some (r1,r2,r3):=H
      have A106:=Aside0.mk A1060
      clear A1060
      by_cases c107 : t167 > ji64
      rotate_left
      ·rw [if_neg c107] at H
       have c107b0 : decide (ji64 < t167) = false:=decide_eq_false c107
       clear c107
       have H':=Aside0.mk H
       clear H
       have hnb121:=NB144_143.out
       have hnc121:=NB143_144.out
       have hnb122:=NB144_145.out
       have hnc122:=NB145_144.out
       have hnb123:=NB144_149.out
       have hnc123:=NB149_144.out
       have hcz124_0 : wr.cell? ⟨gb144,0,none⟩ = some (u150000):=(blk_cell BK144.out 0).trans rfl
       have hcz124_1 : wr.cell? ⟨gb144,1,none⟩ = some (.int .i64 a1_1):=(blk_cell BK144.out 1).trans rfl
       have hcz124_2 : wr.cell? ⟨gb144,2,none⟩ = some (.int .i64 a1_2):=(blk_cell BK144.out 2).trans rfl
       have hfz124_0:=blk_frozen BK144.out 0
       have hfz124_1:=blk_frozen BK144.out 1
       have hfz124_2:=blk_frozen BK144.out 2
       obtain ⟨Ao125,co125,eo125⟩:=Kd.R_slice HO_150000.out
       subst eo125
       go_wp2_with (first|(go_at_call 39;(with_reducible refine (leadlag_countOn.calls k2 _ _ x150000_2 a1_1 a1_2 t167 _ ?side1 ?side2 A106.out).mono ?_);(case side1 => repeat (first|exact (Kd.R_reads' HO_150000.out).2.2|(with_reducible refine Kd.C_alloc ?_ _)|(with_reducible refine Kd.C_drewN ?_ _)|(with_reducible refine Kd.C_drew ?_)));(case side2 => exact (Kd.R_reads' HO_150000.out).2.1);rintro e w126 ⟨rfl,hb⟩;have n0_:=Aside0.mk (Kd.R_below (by (with_reducible repeat (first|apply Kd.R_alloc|apply Kd.R_drewN|apply Kd.R_drew));exact HO_14.out) hb);have n1_:=Aside0.mk (Kd.R_below (by (with_reducible repeat (first|apply Kd.R_alloc|apply Kd.R_drewN|apply Kd.R_drew));exact HO_150000.out) hb);have n2_:=Aside0.mk (blk_below (g:=gb143) (o:=.cells #[.int .i64 a0_0,.int .i64 a0_1] 43 (0,0)) (by (with_reducible repeat (first|refine blk_drewN ?_ _|refine blk_drew ?_|refine blk_alloc ?_ _));exact BK143.out) hb);have n3_:=Aside0.mk (blk_below (g:=gb144) (o:=.cells #[.slice Ao125 x150000_2.length co125,.int .i64 a1_1,.int .i64 a1_2] 32 (0,0)) (by (with_reducible repeat (first|refine blk_drewN ?_ _|refine blk_drew ?_|refine blk_alloc ?_ _));exact BK144.out) hb);have n4_:=Aside0.mk (blk_below (g:=gb145) (o:=.cells #[.slice none 0 0,.int .i64 0,.int .i64 0] 32 (0,0)) (by (with_reducible repeat (first|refine blk_drewN ?_ _|refine blk_drew ?_|refine blk_alloc ?_ _));exact BK145.out) hb);have n5_:=Aside0.mk (blk_below (g:=gb149) (o:=.cells #[.slice Ao125 x150000_2.length co125] 30 (0,0)) (by (with_reducible repeat (first|refine blk_drewN ?_ _|refine blk_drew ?_|refine blk_alloc ?_ _));exact BK149.out) hb);have n6_:=Aside0.mk (below_step (by repeat (first|(with_reducible first|exact HB.out|apply below_alloc|apply pw_below_drewN|apply below_drew1|refine below_set ?_ GE143.out|refine below_set ?_ GE144.out|refine below_set ?_ GE145.out|refine below_set ?_ GE149.out)|exact HB.out)) hb);clear HO_14;clear HO_150000;clear BK143;clear BK144;clear BK145;clear BK149;clear HB;have HO_14:=n0_;have HO_150000:=n1_;have BK143:=n2_;have BK144:=n3_;have BK145:=n4_;have BK149:=n5_;have HB:=n6_;clear n0_ n1_ n2_ n3_ n4_ n5_ n6_;(try clear hb);(try clear hb2);(try clear hk);(try clear hi)))
       go_meet
       case rel => exact ⟨_,(a1_2),(x150000_2),(.slice Ao125 x150000_2.length co125),H',⟨by have:=HK1.out;have:=HK2.out;first|omega|exact Nat.le_refl _⟩,⟨by (with_reducible repeat (first|apply Kd.R_alloc|apply Kd.R_drewN|apply Kd.R_drew));exact HO_14.out⟩,⟨by (with_reducible repeat (first|apply Kd.R_alloc|apply Kd.R_drewN|apply Kd.R_drew));exact HO_150000.out⟩,⟨by (with_reducible repeat (first|refine blk_drewN ?_ _|refine blk_drew ?_|refine blk_alloc ?_ _));exact BK143.out⟩,⟨by (with_reducible repeat (first|refine blk_drewN ?_ _|refine blk_drew ?_|refine blk_alloc ?_ _));exact BK144.out⟩,⟨by (with_reducible repeat (first|refine blk_drewN ?_ _|refine blk_drew ?_|refine blk_alloc ?_ _));exact BK145.out⟩,⟨by (with_reducible repeat (first|refine blk_drewN ?_ _|refine blk_drew ?_|refine blk_alloc ?_ _));exact BK149.out⟩,⟨by repeat (first|(with_reducible first|exact HB.out|apply below_alloc|apply pw_below_drewN|apply below_drew1|refine below_set ?_ GE143.out|refine below_set ?_ GE144.out|refine below_set ?_ GE145.out|refine below_set ?_ GE149.out)|exact HB.out)⟩⟩
      rw [if_pos c107] at H
      have c107b0 : decide (ji64 < t167) = true:=decide_eq_true c107
      clear c107
      by_cases c108 : 0 ≤ x18_2
      rotate_left
      ·rw [if_neg c108] at H
       exact absurd H (by simp)
      rw [if_pos c108] at H
      have c108b0 : decide (0 ≤ x18_2) = true:=decide_eq_true c108
      clear c108
      by_cases c109 : x18_2 < (t161.length : Int)
      rotate_left
      ·rw [if_neg c109] at H
       exact absurd H (by simp)
      rw [if_pos c109] at H
      have c109b0 : decide (x18_2 < (t161.length : Int)) = true:=decide_eq_true c109
      clear c109
      by_cases c110 : 0 ≤ (rd t161 x18_2)
      rotate_left
      ·rw [if_neg c110] at H
       exact absurd H (by simp)
      rw [if_pos c110] at H
      have c110b0 : decide (0 ≤ (rd t161 x18_2)) = true:=decide_eq_true c110
      clear c110
      by_cases c111 : (rd t161 x18_2) < (x150000_2.length : Int)
      rotate_left
      ·rw [if_neg c111] at H
       exact absurd H (by simp)
      rw [if_pos c111] at H
      have c111b0 : decide ((rd t161 x18_2) < (x150000_2.length : Int)) = true:=decide_eq_true c111
      clear c111
      obtain ⟨y169,hy169⟩ : ∃ y_ : List (S62),y_ = (x150000_2.set ((rd t161 x18_2) : Int).toNat (⟨(rd_T62 x150000_2 (rd t161 x18_2)).f0,false,(rd_T62 x150000_2 (rd t161 x18_2)).f2⟩ : S62)):=⟨_,rfl⟩
      replace H : (leadlag_step.l2 k2 a4 ji64 t161 (wrap64 (x18_2 - 1)) a0_0 a0_1 l1_0 a1_1 a1_2 y169) = some (r1,r2,r3):=by first|(rw [hy169];with_reducible exact H)|(have H2_:=(Option.bind_some _ _).symm.trans H;rw [hy169];with_reducible exact H2_)|(have H2_:=(Option.bind_some _ _).symm.trans H;with_reducible exact H2_)|with_reducible exact H|(rw [hy169];exact H)|exact H
      have Ny169:=Aside0.mk hy169
      clear hy169
      have H':=Aside0.mk H
      clear H
      have hnb113:=NB144_143.out
      have hnc113:=NB143_144.out
      have hnb114:=NB144_145.out
      have hnc114:=NB145_144.out
      have hnb115:=NB144_149.out
      have hnc115:=NB149_144.out
      have hcz116_0 : wr.cell? ⟨gb144,0,none⟩ = some (u150000):=(blk_cell BK144.out 0).trans rfl
      have hcz116_1 : wr.cell? ⟨gb144,1,none⟩ = some (.int .i64 a1_1):=(blk_cell BK144.out 1).trans rfl
      have hcz116_2 : wr.cell? ⟨gb144,2,none⟩ = some (.int .i64 a1_2):=(blk_cell BK144.out 2).trans rfl
      have hfz116_0:=blk_frozen BK144.out 0
      have hfz116_1:=blk_frozen BK144.out 1
      have hfz116_2:=blk_frozen BK144.out 2
      obtain ⟨Ao117,co117,eo117⟩:=Kd.R_slice HO_150000.out
      subst eo117
      try go_wp2_with (first|(go_at_call 39;(with_reducible refine (leadlag_countOn.calls k2 _ _ x150000_2 a1_1 a1_2 t167 _ ?side1 ?side2 A106.out).mono ?_);(case side1 => repeat (first|exact (Kd.R_reads' HO_150000.out).2.2|(with_reducible refine Kd.C_alloc ?_ _)|(with_reducible refine Kd.C_drewN ?_ _)|(with_reducible refine Kd.C_drew ?_)));(case side2 => exact (Kd.R_reads' HO_150000.out).2.1);rintro e w118 ⟨rfl,hb⟩;have n0_:=Aside0.mk (Kd.R_below (by (with_reducible repeat (first|apply Kd.R_alloc|apply Kd.R_drewN|apply Kd.R_drew));exact HO_14.out) hb);have n1_:=Aside0.mk (Kd.R_below (by (with_reducible repeat (first|apply Kd.R_alloc|apply Kd.R_drewN|apply Kd.R_drew));exact HO_150000.out) hb);have n2_:=Aside0.mk (blk_below (g:=gb143) (o:=.cells #[.int .i64 a0_0,.int .i64 a0_1] 43 (0,0)) (by (with_reducible repeat (first|refine blk_drewN ?_ _|refine blk_drew ?_|refine blk_alloc ?_ _));exact BK143.out) hb);have n3_:=Aside0.mk (blk_below (g:=gb144) (o:=.cells #[.slice Ao117 x150000_2.length co117,.int .i64 a1_1,.int .i64 a1_2] 32 (0,0)) (by (with_reducible repeat (first|refine blk_drewN ?_ _|refine blk_drew ?_|refine blk_alloc ?_ _));exact BK144.out) hb);have n4_:=Aside0.mk (blk_below (g:=gb145) (o:=.cells #[.slice none 0 0,.int .i64 0,.int .i64 0] 32 (0,0)) (by (with_reducible repeat (first|refine blk_drewN ?_ _|refine blk_drew ?_|refine blk_alloc ?_ _));exact BK145.out) hb);have n5_:=Aside0.mk (blk_below (g:=gb149) (o:=.cells #[.slice Ao117 x150000_2.length co117] 30 (0,0)) (by (with_reducible repeat (first|refine blk_drewN ?_ _|refine blk_drew ?_|refine blk_alloc ?_ _));exact BK149.out) hb);have n6_:=Aside0.mk (below_step (by repeat (first|(with_reducible first|exact HB.out|apply below_alloc|apply pw_below_drewN|apply below_drew1|refine below_set ?_ GE143.out|refine below_set ?_ GE144.out|refine below_set ?_ GE145.out|refine below_set ?_ GE149.out)|exact HB.out)) hb);clear HO_14;clear HO_150000;clear BK143;clear BK144;clear BK145;clear BK149;clear HB;have HO_14:=n0_;have HO_150000:=n1_;have BK143:=n2_;have BK144:=n3_;have BK145:=n4_;have BK149:=n5_;have HB:=n6_;clear n0_ n1_ n2_ n3_ n4_ n5_ n6_;(try clear hb);(try clear hb2);(try clear hk);(try clear hi)))
      have n0_:=Aside0.mk (Kd.R_drew HO_14.out)
      have n1_:=Aside0.mk (Kd.R_drew HO_150000.out)
      have n2_:=Aside0.mk (blk_drew BK143.out)
      have n3_:=Aside0.mk (blk_drew BK144.out)
      have n4_:=Aside0.mk (blk_drew BK145.out)
      have n5_:=Aside0.mk (blk_drew BK149.out)
      have n6_:=Aside0.mk (below_drew1 HB.out)
      clear HO_14
      clear HO_150000
      clear BK143
      clear BK144
      clear BK145
      clear BK149
      clear HB
      have HO_14:=n0_
      have HO_150000:=n1_
      have BK143:=n2_
      have BK144:=n3_
      have BK145:=n4_
      have BK149:=n5_
      have HB:=n6_
      clear n0_ n1_ n2_ n3_ n4_ n5_ n6_
      have p168 : 0 ≤ (x18_2 : Int):=of_decide_eq_true (by first|(with_reducible assumption)|assumption)
      have q168 : x18_2 < (t161.length : Int):=of_decide_eq_true (by first|(with_reducible assumption)|assumption)
      obtain ⟨ad168,e168,hx168_0⟩:=Kd.at_int (Kd.R_reads' HO_14.out).2.2 x18_2 p168 q168
      cases e168
      replace p168:=eq_true p168
      replace q168:=eq_true q168
      have p112 : 0 ≤ ((rd t161 x18_2) : Int):=of_decide_eq_true (by first|(with_reducible assumption)|assumption)
      have q112 : ((rd t161 x18_2) : Int) < ((x150000_2.length : Int) : Int):=of_decide_eq_true (by first|(with_reducible assumption)|assumption)
      obtain ⟨go112,co112,eo112,gb112,gl112,cl112,HG112⟩:=Kd.R_form HO_150000.out (by omega)
      (first|cases eo112|(injection eo112 with ea_ en_ ec_;(first|subst ea_|(injection ea_ with ea_;subst ea_));subst ec_;clear en_))
      have GB112:=Aside0.mk gb112
      have GG112:=Aside0.mk HG112
      clear gb112 gl112 HG112
      obtain ⟨ce112,hcl112,hM112,hcc112,hfr112⟩:=Kd.R_elem HO_150000.out z62 ((rd t161 x18_2) : Int) p112 q112
      obtain rfl:=k62_openM hM112
      have hx112_0 : World.cell? _ ⟨go112,((rd t161 x18_2) : Int).toNat * 3,none⟩ = some (.int .i64 ((rd_T62 x150000_2 (rd t161 x18_2)).f0)):=hcc112 0 _ rfl
      have hx112_1 : World.cell? _ ⟨go112,((rd t161 x18_2) : Int).toNat * 3 + 1,none⟩ = some (.bool ((rd_T62 x150000_2 (rd t161 x18_2)).f1)):=hcc112 1 _ rfl
      have hx112_2 : World.cell? _ ⟨go112,((rd t161 x18_2) : Int).toNat * 3 + 2,none⟩ = some (.bool ((rd_T62 x150000_2 (rd t161 x18_2)).f2)):=hcc112 2 _ rfl
      have hf112_0 : World.frozen? _ ⟨go112,((rd t161 x18_2) : Int).toNat * 3,none⟩ = false:=hfr112 0
      have hf112_1 : World.frozen? _ ⟨go112,((rd t161 x18_2) : Int).toNat * 3 + 1,none⟩ = false:=hfr112 1
      have hf112_2 : World.frozen? _ ⟨go112,((rd t161 x18_2) : Int).toNat * 3 + 2,none⟩ = false:=hfr112 2
      clear hcl112 hcc112 hfr112 hM112
      replace p112:=eq_true p112
      replace q112:=eq_true q112
      obtain ⟨ce120,hcl120,hM120,hcc120,hfr120⟩:=Kd.R_elem HO_150000.out z62 ((rd t161 x18_2) : Int) (of_decide_eq_true (by first|(with_reducible assumption)|assumption)) (by have h_ : ((rd t161 x18_2) : Int) < ((x150000_2.length : Int) : Int):=of_decide_eq_true (by first|(with_reducible assumption)|assumption);first|exact h_|(have e_:=(Kd.R_reads' HO_150000.out).1;omega)|simpa using h_)
      obtain rfl:=k62_openM hM120
      have HP120:=(Kd.R_seg HO_150000.out ((rd t161 x18_2) : Int) (of_decide_eq_true (by first|(with_reducible assumption)|assumption)) (by have h_ : ((rd t161 x18_2) : Int) < ((x150000_2.length : Int) : Int):=of_decide_eq_true (by first|(with_reducible assumption)|assumption);first|exact h_|(have e_:=(Kd.R_reads' HO_150000.out).1;omega)|simpa using h_) (seg:=[.bool false]) (j:=1) hcl120 hcc120 (show 2 ≤ 3 from by decide) (x':=(⟨(rd_T62 x150000_2 (rd t161 x18_2)).f0,false,(rd_T62 x150000_2 (rd t161 x18_2)).f2⟩ : S62)) (k62_mkM_of _ _ _ (⟨(rd_T62 x150000_2 (rd t161 x18_2)).f0,false,(rd_T62 x150000_2 (rd t161 x18_2)).f2⟩ : S62) (by first|rfl|exact k62_cons3 (congrArg Value.bool Nbq38.out.symm)|exact k62_cons3 (congrArg Value.bool Nbq48.out.symm))) (fun _ hk => hk)).1
      rw [← Ny169.out] at HP120
      have HQ120:=Aside0.mk HP120
      clear hcl120 hcc120 hfr120 hM120 HP120
      refine start_ (n:=8) (S:=fun w' => w'.cell? ⟨gb149,0,none⟩ = some (.slice (some ⟨go112,0,none⟩) x150000_2.length co117)∧w'.cell? (ad168.add (x18_2).toNat) = some (.int .i64 (rd t161 x18_2))) (ds:=[7]) #[false,false,false,false,false,false,false,false] (by kernel_rfl) rfl rfl ⟨(blk_cell BK149.out 0).trans rfl,hx168_0⟩ (fun hHeld => ?_);refine with_tabW leadlag_step.tab25 leadlag_step.bits25 (fun HT_ HW_ => ?_)
      generalize w118.drew = w119 at HO_14 HO_150000 BK143 BK144 BK145 BK149 HB GG112 HQ120 hf112_0 hf112_1 hf112_2 hx112_0 hx112_1 hx112_2 hx168_0 hHeld ⊢
      refine pure_ (i:=1) (N:=some 125) (v:=?_) (a':=?_) #[false,true,false,false,false,false,false,false] rfl rfl (any_of HT_.out (by kernel_rfl)) (fun _ _ _ h => h) (Or.inl ⟨by rfl,?_⟩) ?_ ?_
      rotate_left;(intro w';go_simp;with_reducible rfl);rotate_left;(simp only [Act.put,List.setIfInBounds_toArray,List.set_cons_zero,List.set_cons_succ,i64_w,i32_w];rfl)
      refine pure_ (i:=2) (N:=some 126) (v:=?_) (a':=?_) #[false,true,true,false,false,false,false,false] rfl rfl (any_of HT_.out (by kernel_rfl)) (fun _ _ _ h => h) (Or.inl ⟨by rfl,?_⟩) ?_ ?_
      rotate_left;(intro w';go_simp;with_reducible rfl);rotate_left;(simp only [Act.put,List.setIfInBounds_toArray,List.set_cons_zero,List.set_cons_succ,i64_w,i32_w];rfl)
      refine pure_ (i:=3) (N:=some 127) (v:=?_) (a':=?_) #[false,true,true,true,false,false,false,false] rfl rfl (any_of HT_.out (by kernel_rfl)) (fun _ _ _ h => h) (Or.inl ⟨by rfl,?_⟩) ?_ ?_
      rotate_left;(intro w';go_simp;with_reducible rfl);rotate_left;(simp only [Act.put,List.setIfInBounds_toArray,List.set_cons_zero,List.set_cons_succ,i64_w,i32_w];rfl)
      refine take_ (i:=0) (N:=some 124) (v:=?_) (a':=?_) #[true,true,true,true,false,false,false,false] rfl rfl (take_ofW HT_.out HW_.out (by kernel_rfl)) (fun _ _ _ h => h) (Or.inl ⟨by rfl,?_⟩) hHeld ?_ ?_
      rotate_left;(rintro w' ⟨s0,s1⟩;go_simp;with_reducible rfl);rotate_left;(simp only [Act.put,List.setIfInBounds_toArray,List.set_cons_zero,List.set_cons_succ,i64_w,i32_w];rfl)
      refine take_ (i:=4) (N:=some 128) (v:=?_) (a':=?_) #[true,true,true,true,true,false,false,false] rfl rfl (take_ofW HT_.out HW_.out (by kernel_rfl)) (fun _ _ _ h => h) (Or.inl ⟨by rfl,?_⟩) hHeld ?_ ?_
      rotate_left;(rintro w' ⟨s0,s1⟩;go_simp;with_reducible rfl);rotate_left;(simp only [Act.put,List.setIfInBounds_toArray,List.set_cons_zero,List.set_cons_succ,i64_w,i32_w];rfl)
      refine pure_ (i:=5) (N:=some 129) (v:=?_) (a':=?_) #[true,true,true,true,true,true,false,false] rfl rfl (any_of HT_.out (by kernel_rfl)) (fun _ _ _ h => h) (Or.inl ⟨by rfl,?_⟩) ?_ ?_
      rotate_left;(intro w';go_simp;with_reducible rfl);rotate_left;(simp only [Act.put,List.setIfInBounds_toArray,List.set_cons_zero,List.set_cons_succ,i64_w,i32_w];rfl)
      refine pure_ (i:=6) (N:=some 130) (v:=?_) (a':=?_) #[true,true,true,true,true,true,true,false] rfl rfl (any_of HT_.out (by kernel_rfl)) (fun _ _ _ h => h) (Or.inl ⟨by rfl,?_⟩) ?_ ?_
      rotate_left;(intro w';go_simp;with_reducible rfl);rotate_left;(simp only [Act.put,List.setIfInBounds_toArray,List.set_cons_zero,List.set_cons_succ,i64_w,i32_w];rfl)
      refine last_ (i:=7) (N:=none) #[true,true,true,true,true,true,true,true] rfl rfl (one_of HT_.out (by kernel_rfl)) (by decide) (fun K hK => ?_)
      refine skip_ (w1:=?_) (by rfl) rfl ?_ ?_
      rotate_left
      ·go_simp
       rfl
      refine hK.out _ _ ?_
      clear hK K
      refine done_ (done_of HT_.out (by kernel_rfl)) ?_
      try go_wp2
      go_roundg k2
      case measure => have:=HK1.out;have:=HK2.out;omega
      case rel => exact ⟨(wrap64 (x18_2 - 1)),(y169),(.slice (some ⟨go112,0,none⟩) x150000_2.length co117),(by first|rfl|(simp;done)|(simp [*];done)),H',⟨by have:=HK1.out;have:=HK2.out;omega⟩,⟨by (with_reducible repeat (first|apply Kd.R_alloc|apply Kd.R_drewN|apply Kd.R_drew));exact Kd.R_mono (Kd.R_far (p:=⟨go112,((rd t161 x18_2) : Int).toNat * 3 + 1,none⟩) (Kd.R_types HO_14.out GG112.out (by decide)) (fun _ hk => hk.2) (.bool false)) (fun _ hk => trivial)⟩,⟨by (with_reducible repeat (first|apply Kd.R_alloc|apply Kd.R_drewN|apply Kd.R_drew));exact HQ120.out⟩,⟨by (with_reducible repeat (first|refine blk_drewN ?_ _|refine blk_drew ?_|refine blk_alloc ?_ _));refine blk_far ?_ (by have h_:=Kd.R_ne HO_150000.out BK143.out (by decide);intro e_;exact h_ (by rw [e_];rfl)) _;(with_reducible repeat (first|refine blk_drewN ?_ _|refine blk_drew ?_|refine blk_alloc ?_ _));exact BK143.out⟩,⟨by (with_reducible repeat (first|refine blk_drewN ?_ _|refine blk_drew ?_|refine blk_alloc ?_ _));refine blk_far ?_ (by have h_:=Kd.R_ne HO_150000.out BK144.out (by decide);intro e_;exact h_ (by rw [e_];rfl)) _;(with_reducible repeat (first|refine blk_drewN ?_ _|refine blk_drew ?_|refine blk_alloc ?_ _));exact BK144.out⟩,⟨by (with_reducible repeat (first|refine blk_drewN ?_ _|refine blk_drew ?_|refine blk_alloc ?_ _));refine blk_far ?_ (by have h_:=Kd.R_ne HO_150000.out BK145.out (by decide);intro e_;exact h_ (by rw [e_];rfl)) _;(with_reducible repeat (first|refine blk_drewN ?_ _|refine blk_drew ?_|refine blk_alloc ?_ _));exact BK145.out⟩,⟨by (with_reducible repeat (first|refine blk_drewN ?_ _|refine blk_drew ?_|refine blk_alloc ?_ _));refine blk_far ?_ (by have h_:=Kd.R_ne HO_150000.out BK149.out (by decide);intro e_;exact h_ (by rw [e_];rfl)) _;(with_reducible repeat (first|refine blk_drewN ?_ _|refine blk_drew ?_|refine blk_alloc ?_ _));exact BK149.out⟩,⟨by repeat (first|(with_reducible first|exact HB.out|apply below_alloc|apply pw_below_drewN|apply below_drew1|refine below_set ?_ GB112.out|refine below_set ?_ GE143.out|refine below_set ?_ GE144.out|refine below_set ?_ GE145.out|refine below_set ?_ GE149.out)|exact HB.out)⟩⟩
   case rest =>
    clear HC66
    (try clear c1);(try clear p1);(try clear q1);(try clear hx1);(try clear c2);(try clear p2);(try clear c3);(try clear c4);(try clear p4);(try clear q4);(try clear hx4);(try clear c5);(try clear p5);(try clear q5);(try clear hx5);(try clear hf5);(try clear c6);(try clear p6);(try clear c7);(try clear c8);(try clear c9);(try clear p9);(try clear q9);(try clear hx9);(try clear hf9);(try clear c10);(try clear c11);(try clear p11);(try clear q11);(try clear hx11);(try clear hf11);(try clear c12);(try clear p15);(try clear q15);(try clear hx15);(try clear p16);(try clear q16);(try clear hx16);(try clear c20);(try clear c29);(try clear c29b0);(try clear c30);(try clear c31);(try clear c44);(try clear c45);(try clear c46);(try clear c47);(try clear p47);(try clear q47);(try clear hx47);(try clear hf47);(try clear q48);(try clear c49);(try clear c50);(try clear p50);(try clear q50);(try clear hx50);(try clear hf50);(try clear c55);(try clear c56);(try clear p56);(try clear q56);(try clear hx56);(try clear hf56);(try clear c58);(try clear c61);(try clear p64);(try clear c67);(try clear c68);(try clear c69);(try clear c72);(try clear c73);(try clear c76);(try clear c77);(try clear c79);(try clear c79b0);(try clear c82);(try clear c83);(try clear c84);(try clear c88);(try clear c88b0);(try clear c89);(try clear c89b0);(try clear c90);(try clear c90b0);(try clear c91);(try clear c91b0);(try clear c92);(try clear c92b0);(try clear c93);(try clear p93);(try clear q93);(try clear hx93);(try clear hf93);(try clear c94);(try clear c95);(try clear c96);(try clear c98);(try clear hx98);(try clear hf98);(try clear c100);(try clear c101);(try clear c102);(try clear c105);(try clear c105b0);(try clear c107);(try clear c107b0);(try clear c108);(try clear c108b0);(try clear c109);(try clear c109b0);(try clear c110);(try clear c110b0);(try clear c111);(try clear c111b0);(try clear c112);(try clear p112);(try clear q112);(try clear hx112);(try clear hf112);(try clear c113);(try clear c114);(try clear c115);(try clear c120);(try clear c121);(try clear c122);(try clear c123);(try clear hcz103_0);(try clear hcz103_1);(try clear hcz103_2);(try clear hcz116_0);(try clear hcz116_1);(try clear hcz116_2);(try clear hcz124_0);(try clear hcz124_1);(try clear hcz124_2);(try clear hcz70_0);(try clear hcz70_1);(try clear hcz70_2);(try clear hcz73_0);(try clear hcz73_1);(try clear hcz73_2);(try clear hcz75_0);(try clear hcz75_1);(try clear hcz75_2);(try clear hcz78_0);(try clear hcz78_1);(try clear hcz85_0);(try clear hcz85_1);(try clear hcz85_2);(try clear hcz97_0);(try clear hfz103_0);(try clear hfz103_1);(try clear hfz103_2);(try clear hfz116_0);(try clear hfz116_1);(try clear hfz116_2);(try clear hfz124_0);(try clear hfz124_1);(try clear hfz124_2);(try clear hfz70_0);(try clear hfz70_1);(try clear hfz70_2);(try clear hfz73_0);(try clear hfz73_1);(try clear hfz73_2);(try clear hfz75_0);(try clear hfz75_1);(try clear hfz75_2);(try clear hfz78_0);(try clear hfz78_1);(try clear hfz85_0);(try clear hfz85_1);(try clear hfz85_2);(try clear hfz97_0);(try clear hx112_0);(try clear hx112_1);(try clear hx112_2);(try clear hx154_0);(try clear hx156_0);(try clear hx156_1);(try clear hx156_2);(try clear hx157_0);(try clear hx165_0);(try clear hx168_0);(try clear hx47_0);(try clear hx47_1);(try clear hx47_2);(try clear hx50_0);(try clear hx50_1);(try clear hx50_2);(try clear hx56_0);(try clear hx56_1);(try clear hx56_2);(try clear hx93_0);(try clear hx93_1);(try clear hx93_2);(try clear hx98_1);(try clear p1);(try clear p112);(try clear p15);(try clear p154);(try clear p156);(try clear p157);(try clear p16);(try clear p165);(try clear p168);(try clear p2);(try clear p4);(try clear p47);(try clear p5);(try clear p50);(try clear p56);(try clear p6);(try clear p64);(try clear p9);(try clear p93);(try clear q1);(try clear q112);(try clear q15);(try clear q154);(try clear q156);(try clear q157);(try clear q16);(try clear q165);(try clear q168);(try clear q4);(try clear q47);(try clear q48);(try clear q5);(try clear q50);(try clear q56);(try clear q9);(try clear q93)
    obtain ⟨kq,x145002_65,x150000_65,u150000,HA,HJ65,HO_14,HO_150000,BK143,BK144,BK145,BK149,HB⟩:=hcut
    cases kq with
    | zero => exact absurd HA.out (by simp [leadlag_step.j4])
    | succ kj65 =>
     have H:=HA.out
     clear HA
     simp only [leadlag_step.j4] at H
     replace H:=Option.bind_eq_some_iff.mp H
     obtain ⟨t170,A1270,H⟩:=H
     replace H : (if t170 < ji64 then (if a1_1 = (-1) then ((leadlag_firstOff.f kj65 t161 x150000_65).bind fun t171 => (if 0 ≤ t171 then (if t171 < (t161.length : Int) then (if 0 ≤ (rd t161 t171) then (if (rd t161 t171) < (x150000_65.length : Int) then (some ((x150000_65.set ((rd t161 t171) : Int).toNat (⟨(rd_T62 x150000_65 (rd t161 t171)).f0,true,(rd_T62 x150000_65 (rd t161 t171)).f2⟩ : S62)),a4,x145002_65)) else (none)) else (none)) else (none)) else (none))) else (if a4 ≥ (wrap64 (a1_1 + a0_1)) then ((leadlag_firstOff.f kj65 t161 x150000_65).bind fun t174 => (if 0 ≤ t174 then (if t174 < (t161.length : Int) then (if 0 ≤ (rd t161 t174) then (if (rd t161 t174) < (x150000_65.length : Int) then (some ((x150000_65.set ((rd t161 t174) : Int).toNat (⟨(rd_T62 x150000_65 (rd t161 t174)).f0,true,(rd_T62 x150000_65 (rd t161 t174)).f2⟩ : S62)),a4,x145002_65)) else (none)) else (none)) else (none)) else (none))) else (some (x150000_65,a1_1,x145002_65)))) else (some (x150000_65,a1_1,x145002_65))) = some (r1,r2,r3):=H
     have A127:=Aside0.mk A1270
     clear A1270
     by_cases c128 : t170 < ji64
     rotate_left
     ·rw [if_neg c128] at H
      have c128b0 : decide (t170 < ji64) = false:=decide_eq_false c128
      clear c128
      simp only [Option.some.injEq,Prod.mk.injEq] at H
      obtain ⟨rfl,rfl,rfl⟩:=H
      have hnb192:=NB144_143.out
      have hnc192:=NB143_144.out
      have hnb193:=NB144_145.out
      have hnc193:=NB145_144.out
      have hnb194:=NB144_149.out
      have hnc194:=NB149_144.out
      have hcz195_0 : wc.cell? ⟨gb144,0,none⟩ = some (u150000):=(blk_cell BK144.out 0).trans rfl
      have hcz195_1 : wc.cell? ⟨gb144,1,none⟩ = some (.int .i64 a1_1):=(blk_cell BK144.out 1).trans rfl
      have hcz195_2 : wc.cell? ⟨gb144,2,none⟩ = some (.int .i64 x145002_65):=(blk_cell BK144.out 2).trans rfl
      have hfz195_0:=blk_frozen BK144.out 0
      have hfz195_1:=blk_frozen BK144.out 1
      have hfz195_2:=blk_frozen BK144.out 2
      obtain ⟨Ao196,co196,eo196⟩:=Kd.R_slice HO_150000.out
      subst eo196
      go_wp2_with (first|((with_reducible refine gate_callee (f:=39) rfl ?_);refine goesL_ (some 132) rfl rfl Try.func39 (by kernel_rfl) rfl #[.agg #[.slice Ao196 x150000_65.length co196,.int .i64 a1_1,.int .i64 x145002_65],.func (.func 40) #[] #[]] rfl (by (try simp only [List.map_toArray,List.map_cons,List.map_nil]);first|done|rfl|(simp only [List.length_drop,List.length_take];rfl)) ?_;(with_reducible refine (leadlag_countOn.calls kj65 _ _ x150000_65 a1_1 x145002_65 t170 _ ?side1 ?side2 A127.out).mono ?_);(case side1 => repeat (first|exact (Kd.R_reads' HO_150000.out).2.2|(with_reducible refine Kd.C_alloc ?_ _)|(with_reducible refine Kd.C_drewN ?_ _)|(with_reducible refine Kd.C_drew ?_)));(case side2 => exact (Kd.R_reads' HO_150000.out).2.1);rintro e w197 ⟨rfl,hb⟩;refine ⟨_,rfl,?_⟩;have n0_:=Aside0.mk (Kd.R_below (by (with_reducible repeat (first|apply Kd.R_alloc|apply Kd.R_drewN|apply Kd.R_drew));exact HO_14.out) hb);have n1_:=Aside0.mk (Kd.R_below (by (with_reducible repeat (first|apply Kd.R_alloc|apply Kd.R_drewN|apply Kd.R_drew));exact HO_150000.out) hb);have n2_:=Aside0.mk (blk_below (g:=gb143) (o:=.cells #[.int .i64 a0_0,.int .i64 a0_1] 43 (0,0)) (by (with_reducible repeat (first|refine blk_drewN ?_ _|refine blk_drew ?_|refine blk_alloc ?_ _));exact BK143.out) hb);have n3_:=Aside0.mk (blk_below (g:=gb144) (o:=.cells #[.slice Ao196 x150000_65.length co196,.int .i64 a1_1,.int .i64 x145002_65] 32 (0,0)) (by (with_reducible repeat (first|refine blk_drewN ?_ _|refine blk_drew ?_|refine blk_alloc ?_ _));exact BK144.out) hb);have n4_:=Aside0.mk (blk_below (g:=gb145) (o:=.cells #[.slice none 0 0,.int .i64 0,.int .i64 0] 32 (0,0)) (by (with_reducible repeat (first|refine blk_drewN ?_ _|refine blk_drew ?_|refine blk_alloc ?_ _));exact BK145.out) hb);have n5_:=Aside0.mk (blk_below (g:=gb149) (o:=.cells #[.slice Ao196 x150000_65.length co196] 30 (0,0)) (by (with_reducible repeat (first|refine blk_drewN ?_ _|refine blk_drew ?_|refine blk_alloc ?_ _));exact BK149.out) hb);have n6_:=Aside0.mk (below_step (by repeat (first|(with_reducible first|exact HB.out|apply below_alloc|apply pw_below_drewN|apply below_drew1|refine below_set ?_ GE143.out|refine below_set ?_ GE144.out|refine below_set ?_ GE145.out|refine below_set ?_ GE149.out)|exact HB.out)) hb);clear HO_14;clear HO_150000;clear BK143;clear BK144;clear BK145;clear BK149;clear HB;have HO_14:=n0_;have HO_150000:=n1_;have BK143:=n2_;have BK144:=n3_;have BK145:=n4_;have BK149:=n5_;have HB:=n6_;clear n0_ n1_ n2_ n3_ n4_ n5_ n6_;(try clear hb);(try clear hb2);(try clear hk);(try clear hi);have hcz198_0 : w197.cell? ⟨gb144,0,none⟩ = some (.slice Ao196 x150000_65.length co196):=(blk_cell BK144.out 0).trans rfl;have hcz198_1 : w197.cell? ⟨gb144,1,none⟩ = some (.int .i64 a1_1):=(blk_cell BK144.out 1).trans rfl;have hcz198_2 : w197.cell? ⟨gb144,2,none⟩ = some (.int .i64 x145002_65):=(blk_cell BK144.out 2).trans rfl;have hfz198_0:=blk_frozen BK144.out 0;have hfz198_1:=blk_frozen BK144.out 1;have hfz198_2:=blk_frozen BK144.out 2;have hnb199:=NB145_143.out;have hnc199:=NB143_145.out;have hnb200:=NB145_149.out;have hnc200:=NB149_145.out;have hcz201_0 : w197.cell? ⟨gb145,0,none⟩ = some (.slice none 0 0):=(blk_cell BK145.out 0).trans rfl;have hcz201_1 : w197.cell? ⟨gb145,1,none⟩ = some (.int .i64 0):=(blk_cell BK145.out 1).trans rfl;have hcz201_2 : w197.cell? ⟨gb145,2,none⟩ = some (.int .i64 0):=(blk_cell BK145.out 2).trans rfl;have hfz201_0:=blk_frozen BK145.out 0;have hfz201_1:=blk_frozen BK145.out 1;have hfz201_2:=blk_frozen BK145.out 2))
      refine bodyPost_ret (results_cell_row rfl _ _ gb145 32 #[.slice Ao196 x150000_65.length co196,.int .i64 a1_1,.int .i64 x145002_65] (0,0) _ rfl (by (with_reducible repeat (first|refine blk_drewN ?_ _|refine blk_drew ?_|refine blk_alloc ?_ _));refine blk_put (cs:=#[.slice Ao196 x150000_65.length co196,.int .i64 a1_1,.int .i64 0]) ?_ 2 _ rfl;(with_reducible repeat (first|refine blk_drewN ?_ _|refine blk_drew ?_|refine blk_alloc ?_ _));refine blk_put (cs:=#[.slice Ao196 x150000_65.length co196,.int .i64 0,.int .i64 0]) ?_ 1 _ rfl;(with_reducible repeat (first|refine blk_drewN ?_ _|refine blk_drew ?_|refine blk_alloc ?_ _));refine blk_put (cs:=#[.slice none 0 0,.int .i64 0,.int .i64 0]) ?_ 0 _ rfl;(with_reducible repeat (first|refine blk_drewN ?_ _|refine blk_drew ?_|refine blk_alloc ?_ _));exact BK145.out) Try.underlying32 rfl (by kernel_rfl)) rfl ?_
      exact ⟨_,by first|rfl|(simp [errW_none,errW_some] <;> rfl)|(simp only [← hji63,← hji64];first|rfl|(simp [errW_none,errW_some] <;> rfl))|(simp [*,errW_none,errW_some] <;> rfl),by (with_reducible repeat (first|apply Kd.R_alloc|apply Kd.R_drewN|apply Kd.R_drew));exact Kd.R_mono (Kd.R_far (p:=⟨gb145,2,none⟩) (Kd.R_far (p:=⟨gb145,1,none⟩) (Kd.R_far (p:=⟨gb145,0,none⟩) (Kd.R_types HO_150000.out BK145.out (by decide)) (fun _ hk => hk.2) (.slice Ao196 x150000_65.length co196)) (fun _ hk => hk.2) (.int .i64 a1_1)) (fun _ hk => hk.2) (.int .i64 x145002_65)) (fun _ hk => trivial),by repeat (first|(with_reducible first|exact HB.out|apply below_alloc|apply pw_below_drewN|apply below_drew1|refine below_set ?_ GE143.out|refine below_set ?_ GE144.out|refine below_set ?_ GE145.out|refine below_set ?_ GE149.out)|exact HB.out)⟩
     rw [if_pos c128] at H
     have c128b0 : decide (t170 < ji64) = true:=decide_eq_true c128
     clear c128
     by_cases c129 : a1_1 = (-1)
     ·rw [if_pos c129] at H
      have c129b0 : (a1_1 == (-1)) = true:=beq_iff_eq.mpr c129
      have c129b1 : (a1_1 != (-1)) = false:=bne_eq_false_iff_eq.mpr c129
      clear c129
      replace H:=Option.bind_eq_some_iff.mp H
      obtain ⟨t171,A1300,H⟩:=H
      replace H : (if 0 ≤ t171 then (if t171 < (t161.length : Int) then (if 0 ≤ (rd t161 t171) then (if (rd t161 t171) < (x150000_65.length : Int) then (some ((x150000_65.set ((rd t161 t171) : Int).toNat (⟨(rd_T62 x150000_65 (rd t161 t171)).f0,true,(rd_T62 x150000_65 (rd t161 t171)).f2⟩ : S62)),a4,x145002_65)) else (none)) else (none)) else (none)) else (none)) = some (r1,r2,r3):=H
      have A130:=Aside0.mk A1300
      clear A1300
      by_cases c131 : 0 ≤ t171
      rotate_left
      ·rw [if_neg c131] at H
       exact absurd H (by simp)
      rw [if_pos c131] at H
      have c131b0 : decide (0 ≤ t171) = true:=decide_eq_true c131
      clear c131
      by_cases c132 : t171 < (t161.length : Int)
      rotate_left
      ·rw [if_neg c132] at H
       exact absurd H (by simp)
      rw [if_pos c132] at H
      have c132b0 : decide (t171 < (t161.length : Int)) = true:=decide_eq_true c132
      clear c132
      by_cases c133 : 0 ≤ (rd t161 t171)
      rotate_left
      ·rw [if_neg c133] at H
       exact absurd H (by simp)
      rw [if_pos c133] at H
      have c133b0 : decide (0 ≤ (rd t161 t171)) = true:=decide_eq_true c133
      clear c133
      by_cases c134 : (rd t161 t171) < (x150000_65.length : Int)
      rotate_left
      ·rw [if_neg c134] at H
       exact absurd H (by simp)
      rw [if_pos c134] at H
      have c134b0 : decide ((rd t161 t171) < (x150000_65.length : Int)) = true:=decide_eq_true c134
      clear c134
      obtain ⟨y173,hy173⟩ : ∃ y_ : List (S62),y_ = (x150000_65.set ((rd t161 t171) : Int).toNat (⟨(rd_T62 x150000_65 (rd t161 t171)).f0,true,(rd_T62 x150000_65 (rd t161 t171)).f2⟩ : S62)):=⟨_,rfl⟩
      replace H : (some (y173,a4,x145002_65)) = some (r1,r2,r3):=by first|(rw [hy173];with_reducible exact H)|(have H2_:=(Option.bind_some _ _).symm.trans H;rw [hy173];with_reducible exact H2_)|(have H2_:=(Option.bind_some _ _).symm.trans H;with_reducible exact H2_)|with_reducible exact H|(rw [hy173];exact H)|exact H
      have Ny173:=Aside0.mk hy173
      clear hy173
      simp only [Option.some.injEq,Prod.mk.injEq] at H
      obtain ⟨rfl,rfl,rfl⟩:=H
      have hnb136:=NB144_143.out
      have hnc136:=NB143_144.out
      have hnb137:=NB144_145.out
      have hnc137:=NB145_144.out
      have hnb138:=NB144_149.out
      have hnc138:=NB149_144.out
      have hcz139_0 : wc.cell? ⟨gb144,0,none⟩ = some (u150000):=(blk_cell BK144.out 0).trans rfl
      have hcz139_1 : wc.cell? ⟨gb144,1,none⟩ = some (.int .i64 a1_1):=(blk_cell BK144.out 1).trans rfl
      have hcz139_2 : wc.cell? ⟨gb144,2,none⟩ = some (.int .i64 x145002_65):=(blk_cell BK144.out 2).trans rfl
      have hfz139_0:=blk_frozen BK144.out 0
      have hfz139_1:=blk_frozen BK144.out 1
      have hfz139_2:=blk_frozen BK144.out 2
      obtain ⟨Ao140,co140,eo140⟩:=Kd.R_slice HO_150000.out
      subst eo140
      try go_wp2_with (first|((with_reducible refine gate_callee (f:=39) rfl ?_);refine goesL_ (some 132) rfl rfl Try.func39 (by kernel_rfl) rfl #[.agg #[.slice Ao140 x150000_65.length co140,.int .i64 a1_1,.int .i64 x145002_65],.func (.func 40) #[] #[]] rfl (by (try simp only [List.map_toArray,List.map_cons,List.map_nil]);first|done|rfl|(simp only [List.length_drop,List.length_take];rfl)) ?_;(with_reducible refine (leadlag_countOn.calls kj65 _ _ x150000_65 a1_1 x145002_65 t170 _ ?side1 ?side2 A127.out).mono ?_);(case side1 => repeat (first|exact (Kd.R_reads' HO_150000.out).2.2|(with_reducible refine Kd.C_alloc ?_ _)|(with_reducible refine Kd.C_drewN ?_ _)|(with_reducible refine Kd.C_drew ?_)));(case side2 => exact (Kd.R_reads' HO_150000.out).2.1);rintro e w141 ⟨rfl,hb⟩;refine ⟨_,rfl,?_⟩;have n0_:=Aside0.mk (Kd.R_below (by (with_reducible repeat (first|apply Kd.R_alloc|apply Kd.R_drewN|apply Kd.R_drew));exact HO_14.out) hb);have n1_:=Aside0.mk (Kd.R_below (by (with_reducible repeat (first|apply Kd.R_alloc|apply Kd.R_drewN|apply Kd.R_drew));exact HO_150000.out) hb);have n2_:=Aside0.mk (blk_below (g:=gb143) (o:=.cells #[.int .i64 a0_0,.int .i64 a0_1] 43 (0,0)) (by (with_reducible repeat (first|refine blk_drewN ?_ _|refine blk_drew ?_|refine blk_alloc ?_ _));exact BK143.out) hb);have n3_:=Aside0.mk (blk_below (g:=gb144) (o:=.cells #[.slice Ao140 x150000_65.length co140,.int .i64 a1_1,.int .i64 x145002_65] 32 (0,0)) (by (with_reducible repeat (first|refine blk_drewN ?_ _|refine blk_drew ?_|refine blk_alloc ?_ _));exact BK144.out) hb);have n4_:=Aside0.mk (blk_below (g:=gb145) (o:=.cells #[.slice none 0 0,.int .i64 0,.int .i64 0] 32 (0,0)) (by (with_reducible repeat (first|refine blk_drewN ?_ _|refine blk_drew ?_|refine blk_alloc ?_ _));exact BK145.out) hb);have n5_:=Aside0.mk (blk_below (g:=gb149) (o:=.cells #[.slice Ao140 x150000_65.length co140] 30 (0,0)) (by (with_reducible repeat (first|refine blk_drewN ?_ _|refine blk_drew ?_|refine blk_alloc ?_ _));exact BK149.out) hb);have n6_:=Aside0.mk (below_step (by repeat (first|(with_reducible first|exact HB.out|apply below_alloc|apply pw_below_drewN|apply below_drew1|refine below_set ?_ GE143.out|refine below_set ?_ GE144.out|refine below_set ?_ GE145.out|refine below_set ?_ GE149.out)|exact HB.out)) hb);clear HO_14;clear HO_150000;clear BK143;clear BK144;clear BK145;clear BK149;clear HB;have HO_14:=n0_;have HO_150000:=n1_;have BK143:=n2_;have BK144:=n3_;have BK145:=n4_;have BK149:=n5_;have HB:=n6_;clear n0_ n1_ n2_ n3_ n4_ n5_ n6_;(try clear hb);(try clear hb2);(try clear hk);(try clear hi);have hcz142_0 : w141.cell? ⟨gb144,0,none⟩ = some (.slice Ao140 x150000_65.length co140):=(blk_cell BK144.out 0).trans rfl;have hcz142_1 : w141.cell? ⟨gb144,1,none⟩ = some (.int .i64 a1_1):=(blk_cell BK144.out 1).trans rfl;have hcz142_2 : w141.cell? ⟨gb144,2,none⟩ = some (.int .i64 x145002_65):=(blk_cell BK144.out 2).trans rfl;have hfz142_0:=blk_frozen BK144.out 0;have hfz142_1:=blk_frozen BK144.out 1;have hfz142_2:=blk_frozen BK144.out 2;have hnb143:=NB149_143.out;have hnc143:=NB143_149.out;have hnb144:=NB149_145.out;have hnc144:=NB145_149.out;have hcz145_0 : w141.cell? ⟨gb149,0,none⟩ = some (.slice Ao140 x150000_65.length co140):=(blk_cell BK149.out 0).trans rfl;have hfz145_0:=blk_frozen BK149.out 0;obtain ⟨Ao146,co146,eo146⟩:=Kd.R_slice HO_14.out;subst eo146)|((with_reducible refine gate_callee (f:=49) rfl ?_);refine goesL_ (some 151) rfl rfl Try.func49 (by kernel_rfl) rfl #[.slice Ao146 t161.length co146,.func (.func 50) #[] #[.pointer (some ⟨gb149,0,none⟩)]] rfl (by (try simp only [List.map_toArray,List.map_cons,List.map_nil]);first|done|rfl|(simp only [List.length_drop,List.length_take];rfl)) ?_;(refine (leadlag_firstOff.calls kj65 _ _ t161 _ _ x150000_65 t171 _ gb149 (by (with_reducible repeat (first|refine blk_drewN ?_ _|refine blk_drew ?_|refine blk_alloc ?_ _));exact BK149.out) ?side1 ?side2 ?side3 ?side4 A130.out).mono ?_);(case side1 => repeat (first|exact (Kd.R_reads' HO_14.out).2.2|(with_reducible refine Kd.C_alloc ?_ _)|(with_reducible refine Kd.C_drewN ?_ _)|(with_reducible refine Kd.C_drew ?_)));(case side2 => exact (Kd.R_reads' HO_14.out).2.1);(case side3 => repeat (first|exact (Kd.R_reads' HO_150000.out).2.2|(with_reducible refine Kd.C_alloc ?_ _)|(with_reducible refine Kd.C_drewN ?_ _)|(with_reducible refine Kd.C_drew ?_)));(case side4 => exact (Kd.R_reads' HO_150000.out).2.1);rintro e w147 ⟨rfl,hb⟩;refine ⟨_,rfl,?_⟩;have n0_:=Aside0.mk (Kd.R_below (by (with_reducible repeat (first|apply Kd.R_alloc|apply Kd.R_drewN|apply Kd.R_drew));exact HO_14.out) hb);have n1_:=Aside0.mk (Kd.R_below (by (with_reducible repeat (first|apply Kd.R_alloc|apply Kd.R_drewN|apply Kd.R_drew));exact HO_150000.out) hb);have n2_:=Aside0.mk (blk_below (g:=gb143) (o:=.cells #[.int .i64 a0_0,.int .i64 a0_1] 43 (0,0)) (by (with_reducible repeat (first|refine blk_drewN ?_ _|refine blk_drew ?_|refine blk_alloc ?_ _));exact BK143.out) hb);have n3_:=Aside0.mk (blk_below (g:=gb144) (o:=.cells #[.slice Ao140 x150000_65.length co140,.int .i64 a1_1,.int .i64 x145002_65] 32 (0,0)) (by (with_reducible repeat (first|refine blk_drewN ?_ _|refine blk_drew ?_|refine blk_alloc ?_ _));exact BK144.out) hb);have n4_:=Aside0.mk (blk_below (g:=gb145) (o:=.cells #[.slice none 0 0,.int .i64 0,.int .i64 0] 32 (0,0)) (by (with_reducible repeat (first|refine blk_drewN ?_ _|refine blk_drew ?_|refine blk_alloc ?_ _));exact BK145.out) hb);have n5_:=Aside0.mk (blk_below (g:=gb149) (o:=.cells #[.slice Ao140 x150000_65.length co140] 30 (0,0)) (by (with_reducible repeat (first|refine blk_drewN ?_ _|refine blk_drew ?_|refine blk_alloc ?_ _));exact BK149.out) hb);have n6_:=Aside0.mk (below_step (by repeat (first|(with_reducible first|exact HB.out|apply below_alloc|apply pw_below_drewN|apply below_drew1|refine below_set ?_ GE143.out|refine below_set ?_ GE144.out|refine below_set ?_ GE145.out|refine below_set ?_ GE149.out)|exact HB.out)) hb);clear HO_14;clear HO_150000;clear BK143;clear BK144;clear BK145;clear BK149;clear HB;have HO_14:=n0_;have HO_150000:=n1_;have BK143:=n2_;have BK144:=n3_;have BK145:=n4_;have BK149:=n5_;have HB:=n6_;clear n0_ n1_ n2_ n3_ n4_ n5_ n6_;(try clear hb);(try clear hb2);(try clear hk);(try clear hi)))
      have n0_:=Aside0.mk (Kd.R_drew HO_14.out)
      have n1_:=Aside0.mk (Kd.R_drew HO_150000.out)
      have n2_:=Aside0.mk (blk_drew BK143.out)
      have n3_:=Aside0.mk (blk_drew BK144.out)
      have n4_:=Aside0.mk (blk_drew BK145.out)
      have n5_:=Aside0.mk (blk_drew BK149.out)
      have n6_:=Aside0.mk (below_drew1 HB.out)
      clear HO_14
      clear HO_150000
      clear BK143
      clear BK144
      clear BK145
      clear BK149
      clear HB
      have HO_14:=n0_
      have HO_150000:=n1_
      have BK143:=n2_
      have BK144:=n3_
      have BK145:=n4_
      have BK149:=n5_
      have HB:=n6_
      clear n0_ n1_ n2_ n3_ n4_ n5_ n6_
      have p172 : 0 ≤ (t171 : Int):=of_decide_eq_true (by first|(with_reducible assumption)|assumption)
      have q172 : t171 < (t161.length : Int):=of_decide_eq_true (by first|(with_reducible assumption)|assumption)
      obtain ⟨ad172,e172,hx172_0⟩:=Kd.at_int (Kd.R_reads' HO_14.out).2.2 t171 p172 q172
      cases e172
      replace p172:=eq_true p172
      replace q172:=eq_true q172
      have p135 : 0 ≤ ((rd t161 t171) : Int):=of_decide_eq_true (by first|(with_reducible assumption)|assumption)
      have q135 : ((rd t161 t171) : Int) < ((x150000_65.length : Int) : Int):=of_decide_eq_true (by first|(with_reducible assumption)|assumption)
      obtain ⟨go135,co135,eo135,gb135,gl135,cl135,HG135⟩:=Kd.R_form HO_150000.out (by omega)
      (first|cases eo135|(injection eo135 with ea_ en_ ec_;(first|subst ea_|(injection ea_ with ea_;subst ea_));subst ec_;clear en_))
      have GB135:=Aside0.mk gb135
      have GG135:=Aside0.mk HG135
      clear gb135 gl135 HG135
      obtain ⟨ce135,hcl135,hM135,hcc135,hfr135⟩:=Kd.R_elem HO_150000.out z62 ((rd t161 t171) : Int) p135 q135
      obtain rfl:=k62_openM hM135
      have hx135_0 : World.cell? _ ⟨go135,((rd t161 t171) : Int).toNat * 3,none⟩ = some (.int .i64 ((rd_T62 x150000_65 (rd t161 t171)).f0)):=hcc135 0 _ rfl
      have hx135_1 : World.cell? _ ⟨go135,((rd t161 t171) : Int).toNat * 3 + 1,none⟩ = some (.bool ((rd_T62 x150000_65 (rd t161 t171)).f1)):=hcc135 1 _ rfl
      have hx135_2 : World.cell? _ ⟨go135,((rd t161 t171) : Int).toNat * 3 + 2,none⟩ = some (.bool ((rd_T62 x150000_65 (rd t161 t171)).f2)):=hcc135 2 _ rfl
      have hf135_0 : World.frozen? _ ⟨go135,((rd t161 t171) : Int).toNat * 3,none⟩ = false:=hfr135 0
      have hf135_1 : World.frozen? _ ⟨go135,((rd t161 t171) : Int).toNat * 3 + 1,none⟩ = false:=hfr135 1
      have hf135_2 : World.frozen? _ ⟨go135,((rd t161 t171) : Int).toNat * 3 + 2,none⟩ = false:=hfr135 2
      clear hcl135 hcc135 hfr135 hM135
      replace p135:=eq_true p135
      replace q135:=eq_true q135
      obtain ⟨ce149,hcl149,hM149,hcc149,hfr149⟩:=Kd.R_elem HO_150000.out z62 ((rd t161 t171) : Int) (of_decide_eq_true (by first|(with_reducible assumption)|assumption)) (by have h_ : ((rd t161 t171) : Int) < ((x150000_65.length : Int) : Int):=of_decide_eq_true (by first|(with_reducible assumption)|assumption);first|exact h_|(have e_:=(Kd.R_reads' HO_150000.out).1;omega)|simpa using h_)
      obtain rfl:=k62_openM hM149
      have HP149:=(Kd.R_seg HO_150000.out ((rd t161 t171) : Int) (of_decide_eq_true (by first|(with_reducible assumption)|assumption)) (by have h_ : ((rd t161 t171) : Int) < ((x150000_65.length : Int) : Int):=of_decide_eq_true (by first|(with_reducible assumption)|assumption);first|exact h_|(have e_:=(Kd.R_reads' HO_150000.out).1;omega)|simpa using h_) (seg:=[.bool true]) (j:=1) hcl149 hcc149 (show 2 ≤ 3 from by decide) (x':=(⟨(rd_T62 x150000_65 (rd t161 t171)).f0,true,(rd_T62 x150000_65 (rd t161 t171)).f2⟩ : S62)) (k62_mkM_of _ _ _ (⟨(rd_T62 x150000_65 (rd t161 t171)).f0,true,(rd_T62 x150000_65 (rd t161 t171)).f2⟩ : S62) (by first|rfl|exact k62_cons3 (congrArg Value.bool Nbq38.out.symm)|exact k62_cons3 (congrArg Value.bool Nbq48.out.symm))) (fun _ hk => hk)).1
      rw [← Ny173.out] at HP149
      have HQ149:=Aside0.mk HP149
      clear hcl149 hcc149 hfr149 hM149 HP149
      refine start_ (n:=8) (S:=fun w' => w'.cell? ⟨gb149,0,none⟩ = some (.slice (some ⟨go135,0,none⟩) x150000_65.length co140)∧w'.cell? (ad172.add (t171).toNat) = some (.int .i64 (rd t161 t171))) (ds:=[7]) #[false,false,false,false,false,false,false,false] (by kernel_rfl) rfl rfl ⟨(blk_cell BK149.out 0).trans rfl,hx172_0⟩ (fun hHeld => ?_);refine with_tabW leadlag_step.tab28 leadlag_step.bits28 (fun HT_ HW_ => ?_)
      generalize w147.drew = w148 at HO_14 HO_150000 BK143 BK144 BK145 BK149 HB GG135 HQ149 hf135_0 hf135_1 hf135_2 hx135_0 hx135_1 hx135_2 hx172_0 hHeld ⊢
      refine pure_ (i:=1) (N:=some 153) (v:=?_) (a':=?_) #[false,true,false,false,false,false,false,false] rfl rfl (any_of HT_.out (by kernel_rfl)) (fun _ _ _ h => h) (Or.inl ⟨by rfl,?_⟩) ?_ ?_
      rotate_left;(intro w';go_simp;with_reducible rfl);rotate_left;(simp only [Act.put,List.setIfInBounds_toArray,List.set_cons_zero,List.set_cons_succ,i64_w,i32_w];rfl)
      refine pure_ (i:=2) (N:=some 154) (v:=?_) (a':=?_) #[false,true,true,false,false,false,false,false] rfl rfl (any_of HT_.out (by kernel_rfl)) (fun _ _ _ h => h) (Or.inl ⟨by rfl,?_⟩) ?_ ?_
      rotate_left;(intro w';go_simp;with_reducible rfl);rotate_left;(simp only [Act.put,List.setIfInBounds_toArray,List.set_cons_zero,List.set_cons_succ,i64_w,i32_w];rfl)
      refine pure_ (i:=3) (N:=some 155) (v:=?_) (a':=?_) #[false,true,true,true,false,false,false,false] rfl rfl (any_of HT_.out (by kernel_rfl)) (fun _ _ _ h => h) (Or.inl ⟨by rfl,?_⟩) ?_ ?_
      rotate_left;(intro w';go_simp;with_reducible rfl);rotate_left;(simp only [Act.put,List.setIfInBounds_toArray,List.set_cons_zero,List.set_cons_succ,i64_w,i32_w];rfl)
      refine take_ (i:=0) (N:=some 152) (v:=?_) (a':=?_) #[true,true,true,true,false,false,false,false] rfl rfl (take_ofW HT_.out HW_.out (by kernel_rfl)) (fun _ _ _ h => h) (Or.inl ⟨by rfl,?_⟩) hHeld ?_ ?_
      rotate_left;(rintro w' ⟨s0,s1⟩;go_simp;with_reducible rfl);rotate_left;(simp only [Act.put,List.setIfInBounds_toArray,List.set_cons_zero,List.set_cons_succ,i64_w,i32_w];rfl)
      refine take_ (i:=4) (N:=some 156) (v:=?_) (a':=?_) #[true,true,true,true,true,false,false,false] rfl rfl (take_ofW HT_.out HW_.out (by kernel_rfl)) (fun _ _ _ h => h) (Or.inl ⟨by rfl,?_⟩) hHeld ?_ ?_
      rotate_left;(rintro w' ⟨s0,s1⟩;go_simp;with_reducible rfl);rotate_left;(simp only [Act.put,List.setIfInBounds_toArray,List.set_cons_zero,List.set_cons_succ,i64_w,i32_w];rfl)
      refine pure_ (i:=5) (N:=some 157) (v:=?_) (a':=?_) #[true,true,true,true,true,true,false,false] rfl rfl (any_of HT_.out (by kernel_rfl)) (fun _ _ _ h => h) (Or.inl ⟨by rfl,?_⟩) ?_ ?_
      rotate_left;(intro w';go_simp;with_reducible rfl);rotate_left;(simp only [Act.put,List.setIfInBounds_toArray,List.set_cons_zero,List.set_cons_succ,i64_w,i32_w];rfl)
      refine pure_ (i:=6) (N:=some 158) (v:=?_) (a':=?_) #[true,true,true,true,true,true,true,false] rfl rfl (any_of HT_.out (by kernel_rfl)) (fun _ _ _ h => h) (Or.inl ⟨by rfl,?_⟩) ?_ ?_
      rotate_left;(intro w';go_simp;with_reducible rfl);rotate_left;(simp only [Act.put,List.setIfInBounds_toArray,List.set_cons_zero,List.set_cons_succ,i64_w,i32_w];rfl)
      refine last_ (i:=7) (N:=none) #[true,true,true,true,true,true,true,true] rfl rfl (one_of HT_.out (by kernel_rfl)) (by decide) (fun K hK => ?_)
      refine skip_ (w1:=?_) (by rfl) rfl ?_ ?_
      rotate_left
      ·go_simp
       rfl
      refine hK.out _ _ ?_
      clear hK K
      refine done_ (done_of HT_.out (by kernel_rfl)) ?_
      have n0_ : Aside0 (Kd.R (Kd.int .i64) 3 (w148.setCell ⟨go135,((rd t161 t171) : Int).toNat * 3 + 1,none⟩ (.bool true)) w.heap.size (fun _ => True) (.slice (some ad172) t161.length co146) t161):=⟨by (with_reducible repeat (first|apply Kd.R_alloc|apply Kd.R_drewN|apply Kd.R_drew));exact Kd.R_mono (Kd.R_far (p:=⟨go135,((rd t161 t171) : Int).toNat * 3 + 1,none⟩) (Kd.R_types HO_14.out GG135.out (by decide)) (fun _ hk => hk.2) (.bool true)) (fun _ hk => trivial)⟩
      have n1_ : Aside0 (Kd.R k62 62 (w148.setCell ⟨go135,((rd t161 t171) : Int).toNat * 3 + 1,none⟩ (.bool true)) w.heap.size (fun _ => True) (.slice (some ⟨go135,0,none⟩) x150000_65.length co140) y173):=⟨by (with_reducible repeat (first|apply Kd.R_alloc|apply Kd.R_drewN|apply Kd.R_drew));exact HQ149.out⟩
      have n2_ : Aside0 ((w148.setCell ⟨go135,((rd t161 t171) : Int).toNat * 3 + 1,none⟩ (.bool true)).heap[gb143]? = some (.cells #[.int .i64 a0_0,.int .i64 a0_1] 43 (0,0))):=⟨by (with_reducible repeat (first|refine blk_drewN ?_ _|refine blk_drew ?_|refine blk_alloc ?_ _));refine blk_far ?_ (by have h_:=Kd.R_ne HO_150000.out BK143.out (by decide);intro e_;exact h_ (by rw [e_];rfl)) _;(with_reducible repeat (first|refine blk_drewN ?_ _|refine blk_drew ?_|refine blk_alloc ?_ _));exact BK143.out⟩
      have n3_ : Aside0 ((w148.setCell ⟨go135,((rd t161 t171) : Int).toNat * 3 + 1,none⟩ (.bool true)).heap[gb144]? = some (.cells #[.slice (some ⟨go135,0,none⟩) x150000_65.length co140,.int .i64 a1_1,.int .i64 x145002_65] 32 (0,0))):=⟨by (with_reducible repeat (first|refine blk_drewN ?_ _|refine blk_drew ?_|refine blk_alloc ?_ _));refine blk_far ?_ (by have h_:=Kd.R_ne HO_150000.out BK144.out (by decide);intro e_;exact h_ (by rw [e_];rfl)) _;(with_reducible repeat (first|refine blk_drewN ?_ _|refine blk_drew ?_|refine blk_alloc ?_ _));exact BK144.out⟩
      have n4_ : Aside0 ((w148.setCell ⟨go135,((rd t161 t171) : Int).toNat * 3 + 1,none⟩ (.bool true)).heap[gb145]? = some (.cells #[.slice none 0 0,.int .i64 0,.int .i64 0] 32 (0,0))):=⟨by (with_reducible repeat (first|refine blk_drewN ?_ _|refine blk_drew ?_|refine blk_alloc ?_ _));refine blk_far ?_ (by have h_:=Kd.R_ne HO_150000.out BK145.out (by decide);intro e_;exact h_ (by rw [e_];rfl)) _;(with_reducible repeat (first|refine blk_drewN ?_ _|refine blk_drew ?_|refine blk_alloc ?_ _));exact BK145.out⟩
      have n5_ : Aside0 ((w148.setCell ⟨go135,((rd t161 t171) : Int).toNat * 3 + 1,none⟩ (.bool true)).heap[gb149]? = some (.cells #[.slice (some ⟨go135,0,none⟩) x150000_65.length co140] 30 (0,0))):=⟨by (with_reducible repeat (first|refine blk_drewN ?_ _|refine blk_drew ?_|refine blk_alloc ?_ _));refine blk_far ?_ (by have h_:=Kd.R_ne HO_150000.out BK149.out (by decide);intro e_;exact h_ (by rw [e_];rfl)) _;(with_reducible repeat (first|refine blk_drewN ?_ _|refine blk_drew ?_|refine blk_alloc ?_ _));exact BK149.out⟩
      have n6_ : Aside0 (Below w.heap.size w (w148.setCell ⟨go135,((rd t161 t171) : Int).toNat * 3 + 1,none⟩ (.bool true))):=⟨by repeat (first|(with_reducible first|exact HB.out|apply below_alloc|apply pw_below_drewN|apply below_drew1|refine below_set ?_ GB135.out|refine below_set ?_ GE143.out|refine below_set ?_ GE144.out|refine below_set ?_ GE145.out|refine below_set ?_ GE149.out)|exact HB.out)⟩
      (try clear HO_14)
      (try clear HO_150000)
      (try clear BK143)
      (try clear BK144)
      (try clear BK145)
      (try clear BK149)
      (try clear HB)
      generalize (w148.setCell ⟨go135,((rd t161 t171) : Int).toNat * 3 + 1,none⟩ (.bool true)) = w150 at n0_ n1_ n2_ n3_ n4_ n5_ n6_ ⊢
      have HO_14:=n0_
      have HO_150000:=n1_
      have BK143:=n2_
      have BK144:=n3_
      have BK145:=n4_
      have BK149:=n5_
      have HB:=n6_
      clear n0_ n1_ n2_ n3_ n4_ n5_ n6_
      have hcz151_0 : w150.cell? ⟨gb144,0,none⟩ = some (.slice (some ⟨go135,0,none⟩) x150000_65.length co140):=(blk_cell BK144.out 0).trans rfl
      have hcz151_1 : w150.cell? ⟨gb144,1,none⟩ = some (.int .i64 a1_1):=(blk_cell BK144.out 1).trans rfl
      have hcz151_2 : w150.cell? ⟨gb144,2,none⟩ = some (.int .i64 x145002_65):=(blk_cell BK144.out 2).trans rfl
      have hfz151_0:=blk_frozen BK144.out 0
      have hfz151_1:=blk_frozen BK144.out 1
      have hfz151_2:=blk_frozen BK144.out 2
      have hnb152:=NB145_143.out
      have hnc152:=NB143_145.out
      have hcz153_0 : w150.cell? ⟨gb145,0,none⟩ = some (.slice none 0 0):=(blk_cell BK145.out 0).trans rfl
      have hcz153_1 : w150.cell? ⟨gb145,1,none⟩ = some (.int .i64 0):=(blk_cell BK145.out 1).trans rfl
      have hcz153_2 : w150.cell? ⟨gb145,2,none⟩ = some (.int .i64 0):=(blk_cell BK145.out 2).trans rfl
      have hfz153_0:=blk_frozen BK145.out 0
      have hfz153_1:=blk_frozen BK145.out 1
      have hfz153_2:=blk_frozen BK145.out 2
      try go_wp2
      refine bodyPost_ret (results_cell_row rfl _ _ gb145 32 #[.slice (some ⟨go135,0,none⟩) x150000_65.length co140,.int .i64 a4,.int .i64 x145002_65] (0,0) _ rfl (by (with_reducible repeat (first|refine blk_drewN ?_ _|refine blk_drew ?_|refine blk_alloc ?_ _));refine blk_put (cs:=#[.slice (some ⟨go135,0,none⟩) x150000_65.length co140,.int .i64 a4,.int .i64 0]) ?_ 2 _ rfl;(with_reducible repeat (first|refine blk_drewN ?_ _|refine blk_drew ?_|refine blk_alloc ?_ _));refine blk_put (cs:=#[.slice (some ⟨go135,0,none⟩) x150000_65.length co140,.int .i64 0,.int .i64 0]) ?_ 1 _ rfl;(with_reducible repeat (first|refine blk_drewN ?_ _|refine blk_drew ?_|refine blk_alloc ?_ _));refine blk_put (cs:=#[.slice none 0 0,.int .i64 0,.int .i64 0]) ?_ 0 _ rfl;(with_reducible repeat (first|refine blk_drewN ?_ _|refine blk_drew ?_|refine blk_alloc ?_ _));refine blk_far ?_ NB145_144.out _;(with_reducible repeat (first|refine blk_drewN ?_ _|refine blk_drew ?_|refine blk_alloc ?_ _));exact BK145.out) Try.underlying32 rfl (by kernel_rfl)) rfl ?_
      exact ⟨_,by first|rfl|(simp [errW_none,errW_some] <;> rfl)|(simp only [← hji63,← hji64];first|rfl|(simp [errW_none,errW_some] <;> rfl))|(simp [*,errW_none,errW_some] <;> rfl),by (with_reducible repeat (first|apply Kd.R_alloc|apply Kd.R_drewN|apply Kd.R_drew));exact Kd.R_mono (Kd.R_far (p:=⟨gb145,2,none⟩) (Kd.R_far (p:=⟨gb145,1,none⟩) (Kd.R_far (p:=⟨gb145,0,none⟩) (Kd.R_far (p:=⟨gb144,1,none⟩) (Kd.R_types (Kd.R_types HO_150000.out BK144.out (by decide)) BK145.out (by decide)) (fun _ hk => hk.1.2) (.int .i64 a4)) (fun _ hk => hk.2) (.slice (some ⟨go135,0,none⟩) x150000_65.length co140)) (fun _ hk => hk.2) (.int .i64 a4)) (fun _ hk => hk.2) (.int .i64 x145002_65)) (fun _ hk => trivial),by repeat (first|(with_reducible first|exact HB.out|apply below_alloc|apply pw_below_drewN|apply below_drew1|refine below_set ?_ GE143.out|refine below_set ?_ GE144.out|refine below_set ?_ GE145.out|refine below_set ?_ GE149.out)|exact HB.out)⟩
     rw [if_neg c129] at H
     have c129b0 : (a1_1 == (-1)) = false:=beq_eq_false_iff_ne.mpr c129
     have c129b1 : (a1_1 != (-1)) = true:=bne_iff_ne.mpr c129
     by_cases c154 : a4 ≥ (wrap64 (a1_1 + a0_1))
     rotate_left
     ·rw [if_neg c154] at H
      have c154b0 : decide ((wrap64 (a1_1 + a0_1)) ≤ a4) = false:=decide_eq_false c154
      clear c154
      simp only [Option.some.injEq,Prod.mk.injEq] at H
      obtain ⟨rfl,rfl,rfl⟩:=H
      have hnb180:=NB144_143.out
      have hnc180:=NB143_144.out
      have hnb181:=NB144_145.out
      have hnc181:=NB145_144.out
      have hnb182:=NB144_149.out
      have hnc182:=NB149_144.out
      have hcz183_0 : wc.cell? ⟨gb144,0,none⟩ = some (u150000):=(blk_cell BK144.out 0).trans rfl
      have hcz183_1 : wc.cell? ⟨gb144,1,none⟩ = some (.int .i64 a1_1):=(blk_cell BK144.out 1).trans rfl
      have hcz183_2 : wc.cell? ⟨gb144,2,none⟩ = some (.int .i64 x145002_65):=(blk_cell BK144.out 2).trans rfl
      have hfz183_0:=blk_frozen BK144.out 0
      have hfz183_1:=blk_frozen BK144.out 1
      have hfz183_2:=blk_frozen BK144.out 2
      obtain ⟨Ao184,co184,eo184⟩:=Kd.R_slice HO_150000.out
      subst eo184
      go_wp2_with (first|((with_reducible refine gate_callee (f:=39) rfl ?_);refine goesL_ (some 132) rfl rfl Try.func39 (by kernel_rfl) rfl #[.agg #[.slice Ao184 x150000_65.length co184,.int .i64 a1_1,.int .i64 x145002_65],.func (.func 40) #[] #[]] rfl (by (try simp only [List.map_toArray,List.map_cons,List.map_nil]);first|done|rfl|(simp only [List.length_drop,List.length_take];rfl)) ?_;(with_reducible refine (leadlag_countOn.calls kj65 _ _ x150000_65 a1_1 x145002_65 t170 _ ?side1 ?side2 A127.out).mono ?_);(case side1 => repeat (first|exact (Kd.R_reads' HO_150000.out).2.2|(with_reducible refine Kd.C_alloc ?_ _)|(with_reducible refine Kd.C_drewN ?_ _)|(with_reducible refine Kd.C_drew ?_)));(case side2 => exact (Kd.R_reads' HO_150000.out).2.1);rintro e w185 ⟨rfl,hb⟩;refine ⟨_,rfl,?_⟩;have n0_:=Aside0.mk (Kd.R_below (by (with_reducible repeat (first|apply Kd.R_alloc|apply Kd.R_drewN|apply Kd.R_drew));exact HO_14.out) hb);have n1_:=Aside0.mk (Kd.R_below (by (with_reducible repeat (first|apply Kd.R_alloc|apply Kd.R_drewN|apply Kd.R_drew));exact HO_150000.out) hb);have n2_:=Aside0.mk (blk_below (g:=gb143) (o:=.cells #[.int .i64 a0_0,.int .i64 a0_1] 43 (0,0)) (by (with_reducible repeat (first|refine blk_drewN ?_ _|refine blk_drew ?_|refine blk_alloc ?_ _));exact BK143.out) hb);have n3_:=Aside0.mk (blk_below (g:=gb144) (o:=.cells #[.slice Ao184 x150000_65.length co184,.int .i64 a1_1,.int .i64 x145002_65] 32 (0,0)) (by (with_reducible repeat (first|refine blk_drewN ?_ _|refine blk_drew ?_|refine blk_alloc ?_ _));exact BK144.out) hb);have n4_:=Aside0.mk (blk_below (g:=gb145) (o:=.cells #[.slice none 0 0,.int .i64 0,.int .i64 0] 32 (0,0)) (by (with_reducible repeat (first|refine blk_drewN ?_ _|refine blk_drew ?_|refine blk_alloc ?_ _));exact BK145.out) hb);have n5_:=Aside0.mk (blk_below (g:=gb149) (o:=.cells #[.slice Ao184 x150000_65.length co184] 30 (0,0)) (by (with_reducible repeat (first|refine blk_drewN ?_ _|refine blk_drew ?_|refine blk_alloc ?_ _));exact BK149.out) hb);have n6_:=Aside0.mk (below_step (by repeat (first|(with_reducible first|exact HB.out|apply below_alloc|apply pw_below_drewN|apply below_drew1|refine below_set ?_ GE143.out|refine below_set ?_ GE144.out|refine below_set ?_ GE145.out|refine below_set ?_ GE149.out)|exact HB.out)) hb);clear HO_14;clear HO_150000;clear BK143;clear BK144;clear BK145;clear BK149;clear HB;have HO_14:=n0_;have HO_150000:=n1_;have BK143:=n2_;have BK144:=n3_;have BK145:=n4_;have BK149:=n5_;have HB:=n6_;clear n0_ n1_ n2_ n3_ n4_ n5_ n6_;(try clear hb);(try clear hb2);(try clear hk);(try clear hi);have hcz186_0 : w185.cell? ⟨gb144,0,none⟩ = some (.slice Ao184 x150000_65.length co184):=(blk_cell BK144.out 0).trans rfl;have hcz186_1 : w185.cell? ⟨gb144,1,none⟩ = some (.int .i64 a1_1):=(blk_cell BK144.out 1).trans rfl;have hcz186_2 : w185.cell? ⟨gb144,2,none⟩ = some (.int .i64 x145002_65):=(blk_cell BK144.out 2).trans rfl;have hfz186_0:=blk_frozen BK144.out 0;have hfz186_1:=blk_frozen BK144.out 1;have hfz186_2:=blk_frozen BK144.out 2;have hnb187:=NB143_145.out;have hnc187:=NB145_143.out;have hnb188:=NB143_149.out;have hnc188:=NB149_143.out;have hcz189_0 : w185.cell? ⟨gb143,0,none⟩ = some (.int .i64 a0_0):=(blk_cell BK143.out 0).trans rfl;have hcz189_1 : w185.cell? ⟨gb143,1,none⟩ = some (.int .i64 a0_1):=(blk_cell BK143.out 1).trans rfl;have hfz189_0:=blk_frozen BK143.out 0;have hfz189_1:=blk_frozen BK143.out 1;have hnb190:=NB145_149.out;have hnc190:=NB149_145.out;have hcz191_0 : w185.cell? ⟨gb145,0,none⟩ = some (.slice none 0 0):=(blk_cell BK145.out 0).trans rfl;have hcz191_1 : w185.cell? ⟨gb145,1,none⟩ = some (.int .i64 0):=(blk_cell BK145.out 1).trans rfl;have hcz191_2 : w185.cell? ⟨gb145,2,none⟩ = some (.int .i64 0):=(blk_cell BK145.out 2).trans rfl;have hfz191_0:=blk_frozen BK145.out 0;have hfz191_1:=blk_frozen BK145.out 1;have hfz191_2:=blk_frozen BK145.out 2))
      refine bodyPost_ret (results_cell_row rfl _ _ gb145 32 #[.slice Ao184 x150000_65.length co184,.int .i64 a1_1,.int .i64 x145002_65] (0,0) _ rfl (by (with_reducible repeat (first|refine blk_drewN ?_ _|refine blk_drew ?_|refine blk_alloc ?_ _));refine blk_put (cs:=#[.slice Ao184 x150000_65.length co184,.int .i64 a1_1,.int .i64 0]) ?_ 2 _ rfl;(with_reducible repeat (first|refine blk_drewN ?_ _|refine blk_drew ?_|refine blk_alloc ?_ _));refine blk_put (cs:=#[.slice Ao184 x150000_65.length co184,.int .i64 0,.int .i64 0]) ?_ 1 _ rfl;(with_reducible repeat (first|refine blk_drewN ?_ _|refine blk_drew ?_|refine blk_alloc ?_ _));refine blk_put (cs:=#[.slice none 0 0,.int .i64 0,.int .i64 0]) ?_ 0 _ rfl;(with_reducible repeat (first|refine blk_drewN ?_ _|refine blk_drew ?_|refine blk_alloc ?_ _));exact BK145.out) Try.underlying32 rfl (by kernel_rfl)) rfl ?_
      exact ⟨_,by first|rfl|(simp [errW_none,errW_some] <;> rfl)|(simp only [← hji63,← hji64];first|rfl|(simp [errW_none,errW_some] <;> rfl))|(simp [*,errW_none,errW_some] <;> rfl),by (with_reducible repeat (first|apply Kd.R_alloc|apply Kd.R_drewN|apply Kd.R_drew));exact Kd.R_mono (Kd.R_far (p:=⟨gb145,2,none⟩) (Kd.R_far (p:=⟨gb145,1,none⟩) (Kd.R_far (p:=⟨gb145,0,none⟩) (Kd.R_types HO_150000.out BK145.out (by decide)) (fun _ hk => hk.2) (.slice Ao184 x150000_65.length co184)) (fun _ hk => hk.2) (.int .i64 a1_1)) (fun _ hk => hk.2) (.int .i64 x145002_65)) (fun _ hk => trivial),by repeat (first|(with_reducible first|exact HB.out|apply below_alloc|apply pw_below_drewN|apply below_drew1|refine below_set ?_ GE143.out|refine below_set ?_ GE144.out|refine below_set ?_ GE145.out|refine below_set ?_ GE149.out)|exact HB.out)⟩
     rw [if_pos c154] at H
     have c154b0 : decide ((wrap64 (a1_1 + a0_1)) ≤ a4) = true:=decide_eq_true c154
     clear c154
     replace H:=Option.bind_eq_some_iff.mp H
     obtain ⟨t174,A1550,H⟩:=H
     replace H : (if 0 ≤ t174 then (if t174 < (t161.length : Int) then (if 0 ≤ (rd t161 t174) then (if (rd t161 t174) < (x150000_65.length : Int) then (some ((x150000_65.set ((rd t161 t174) : Int).toNat (⟨(rd_T62 x150000_65 (rd t161 t174)).f0,true,(rd_T62 x150000_65 (rd t161 t174)).f2⟩ : S62)),a4,x145002_65)) else (none)) else (none)) else (none)) else (none)) = some (r1,r2,r3):=H
     have A155:=Aside0.mk A1550
     clear A1550
     by_cases c156 : 0 ≤ t174
     rotate_left
     ·rw [if_neg c156] at H
      exact absurd H (by simp)
     rw [if_pos c156] at H
     have c156b0 : decide (0 ≤ t174) = true:=decide_eq_true c156
     clear c156
     by_cases c157 : t174 < (t161.length : Int)
     rotate_left
     ·rw [if_neg c157] at H
      exact absurd H (by simp)
     rw [if_pos c157] at H
     have c157b0 : decide (t174 < (t161.length : Int)) = true:=decide_eq_true c157
     clear c157
     by_cases c158 : 0 ≤ (rd t161 t174)
     rotate_left
     ·rw [if_neg c158] at H
      exact absurd H (by simp)
     rw [if_pos c158] at H
     have c158b0 : decide (0 ≤ (rd t161 t174)) = true:=decide_eq_true c158
     clear c158
     by_cases c159 : (rd t161 t174) < (x150000_65.length : Int)
     rotate_left
     ·rw [if_neg c159] at H
      exact absurd H (by simp)
     rw [if_pos c159] at H
     have c159b0 : decide ((rd t161 t174) < (x150000_65.length : Int)) = true:=decide_eq_true c159
     clear c159
     obtain ⟨y176,hy176⟩ : ∃ y_ : List (S62),y_ = (x150000_65.set ((rd t161 t174) : Int).toNat (⟨(rd_T62 x150000_65 (rd t161 t174)).f0,true,(rd_T62 x150000_65 (rd t161 t174)).f2⟩ : S62)):=⟨_,rfl⟩
     replace H : (some (y176,a4,x145002_65)) = some (r1,r2,r3):=by first|(rw [hy176];with_reducible exact H)|(have H2_:=(Option.bind_some _ _).symm.trans H;rw [hy176];with_reducible exact H2_)|(have H2_:=(Option.bind_some _ _).symm.trans H;with_reducible exact H2_)|with_reducible exact H|(rw [hy176];exact H)|exact H
     have Ny176:=Aside0.mk hy176
     clear hy176
     simp only [Option.some.injEq,Prod.mk.injEq] at H
     obtain ⟨rfl,rfl,rfl⟩:=H
     have hnb161:=NB144_143.out
     have hnc161:=NB143_144.out
     have hnb162:=NB144_145.out
     have hnc162:=NB145_144.out
     have hnb163:=NB144_149.out
     have hnc163:=NB149_144.out
     have hcz164_0 : wc.cell? ⟨gb144,0,none⟩ = some (u150000):=(blk_cell BK144.out 0).trans rfl
     have hcz164_1 : wc.cell? ⟨gb144,1,none⟩ = some (.int .i64 a1_1):=(blk_cell BK144.out 1).trans rfl
     have hcz164_2 : wc.cell? ⟨gb144,2,none⟩ = some (.int .i64 x145002_65):=(blk_cell BK144.out 2).trans rfl
     have hfz164_0:=blk_frozen BK144.out 0
     have hfz164_1:=blk_frozen BK144.out 1
     have hfz164_2:=blk_frozen BK144.out 2
     obtain ⟨Ao165,co165,eo165⟩:=Kd.R_slice HO_150000.out
     subst eo165
     try go_wp2_with (first|((with_reducible refine gate_callee (f:=39) rfl ?_);refine goesL_ (some 132) rfl rfl Try.func39 (by kernel_rfl) rfl #[.agg #[.slice Ao165 x150000_65.length co165,.int .i64 a1_1,.int .i64 x145002_65],.func (.func 40) #[] #[]] rfl (by (try simp only [List.map_toArray,List.map_cons,List.map_nil]);first|done|rfl|(simp only [List.length_drop,List.length_take];rfl)) ?_;(with_reducible refine (leadlag_countOn.calls kj65 _ _ x150000_65 a1_1 x145002_65 t170 _ ?side1 ?side2 A127.out).mono ?_);(case side1 => repeat (first|exact (Kd.R_reads' HO_150000.out).2.2|(with_reducible refine Kd.C_alloc ?_ _)|(with_reducible refine Kd.C_drewN ?_ _)|(with_reducible refine Kd.C_drew ?_)));(case side2 => exact (Kd.R_reads' HO_150000.out).2.1);rintro e w166 ⟨rfl,hb⟩;refine ⟨_,rfl,?_⟩;have n0_:=Aside0.mk (Kd.R_below (by (with_reducible repeat (first|apply Kd.R_alloc|apply Kd.R_drewN|apply Kd.R_drew));exact HO_14.out) hb);have n1_:=Aside0.mk (Kd.R_below (by (with_reducible repeat (first|apply Kd.R_alloc|apply Kd.R_drewN|apply Kd.R_drew));exact HO_150000.out) hb);have n2_:=Aside0.mk (blk_below (g:=gb143) (o:=.cells #[.int .i64 a0_0,.int .i64 a0_1] 43 (0,0)) (by (with_reducible repeat (first|refine blk_drewN ?_ _|refine blk_drew ?_|refine blk_alloc ?_ _));exact BK143.out) hb);have n3_:=Aside0.mk (blk_below (g:=gb144) (o:=.cells #[.slice Ao165 x150000_65.length co165,.int .i64 a1_1,.int .i64 x145002_65] 32 (0,0)) (by (with_reducible repeat (first|refine blk_drewN ?_ _|refine blk_drew ?_|refine blk_alloc ?_ _));exact BK144.out) hb);have n4_:=Aside0.mk (blk_below (g:=gb145) (o:=.cells #[.slice none 0 0,.int .i64 0,.int .i64 0] 32 (0,0)) (by (with_reducible repeat (first|refine blk_drewN ?_ _|refine blk_drew ?_|refine blk_alloc ?_ _));exact BK145.out) hb);have n5_:=Aside0.mk (blk_below (g:=gb149) (o:=.cells #[.slice Ao165 x150000_65.length co165] 30 (0,0)) (by (with_reducible repeat (first|refine blk_drewN ?_ _|refine blk_drew ?_|refine blk_alloc ?_ _));exact BK149.out) hb);have n6_:=Aside0.mk (below_step (by repeat (first|(with_reducible first|exact HB.out|apply below_alloc|apply pw_below_drewN|apply below_drew1|refine below_set ?_ GE143.out|refine below_set ?_ GE144.out|refine below_set ?_ GE145.out|refine below_set ?_ GE149.out)|exact HB.out)) hb);clear HO_14;clear HO_150000;clear BK143;clear BK144;clear BK145;clear BK149;clear HB;have HO_14:=n0_;have HO_150000:=n1_;have BK143:=n2_;have BK144:=n3_;have BK145:=n4_;have BK149:=n5_;have HB:=n6_;clear n0_ n1_ n2_ n3_ n4_ n5_ n6_;(try clear hb);(try clear hb2);(try clear hk);(try clear hi);have hcz167_0 : w166.cell? ⟨gb144,0,none⟩ = some (.slice Ao165 x150000_65.length co165):=(blk_cell BK144.out 0).trans rfl;have hcz167_1 : w166.cell? ⟨gb144,1,none⟩ = some (.int .i64 a1_1):=(blk_cell BK144.out 1).trans rfl;have hcz167_2 : w166.cell? ⟨gb144,2,none⟩ = some (.int .i64 x145002_65):=(blk_cell BK144.out 2).trans rfl;have hfz167_0:=blk_frozen BK144.out 0;have hfz167_1:=blk_frozen BK144.out 1;have hfz167_2:=blk_frozen BK144.out 2;have hnb168:=NB143_145.out;have hnc168:=NB145_143.out;have hnb169:=NB143_149.out;have hnc169:=NB149_143.out;have hcz170_0 : w166.cell? ⟨gb143,0,none⟩ = some (.int .i64 a0_0):=(blk_cell BK143.out 0).trans rfl;have hcz170_1 : w166.cell? ⟨gb143,1,none⟩ = some (.int .i64 a0_1):=(blk_cell BK143.out 1).trans rfl;have hfz170_0:=blk_frozen BK143.out 0;have hfz170_1:=blk_frozen BK143.out 1;have hnb171:=NB149_145.out;have hnc171:=NB145_149.out;have hcz172_0 : w166.cell? ⟨gb149,0,none⟩ = some (.slice Ao165 x150000_65.length co165):=(blk_cell BK149.out 0).trans rfl;have hfz172_0:=blk_frozen BK149.out 0;obtain ⟨Ao173,co173,eo173⟩:=Kd.R_slice HO_14.out;subst eo173)|((with_reducible refine gate_callee (f:=49) rfl ?_);refine goesL_ (some 151) rfl rfl Try.func49 (by kernel_rfl) rfl #[.slice Ao173 t161.length co173,.func (.func 50) #[] #[.pointer (some ⟨gb149,0,none⟩)]] rfl (by (try simp only [List.map_toArray,List.map_cons,List.map_nil]);first|done|rfl|(simp only [List.length_drop,List.length_take];rfl)) ?_;(refine (leadlag_firstOff.calls kj65 _ _ t161 _ _ x150000_65 t174 _ gb149 (by (with_reducible repeat (first|refine blk_drewN ?_ _|refine blk_drew ?_|refine blk_alloc ?_ _));exact BK149.out) ?side1 ?side2 ?side3 ?side4 A155.out).mono ?_);(case side1 => repeat (first|exact (Kd.R_reads' HO_14.out).2.2|(with_reducible refine Kd.C_alloc ?_ _)|(with_reducible refine Kd.C_drewN ?_ _)|(with_reducible refine Kd.C_drew ?_)));(case side2 => exact (Kd.R_reads' HO_14.out).2.1);(case side3 => repeat (first|exact (Kd.R_reads' HO_150000.out).2.2|(with_reducible refine Kd.C_alloc ?_ _)|(with_reducible refine Kd.C_drewN ?_ _)|(with_reducible refine Kd.C_drew ?_)));(case side4 => exact (Kd.R_reads' HO_150000.out).2.1);rintro e w174 ⟨rfl,hb⟩;refine ⟨_,rfl,?_⟩;have n0_:=Aside0.mk (Kd.R_below (by (with_reducible repeat (first|apply Kd.R_alloc|apply Kd.R_drewN|apply Kd.R_drew));exact HO_14.out) hb);have n1_:=Aside0.mk (Kd.R_below (by (with_reducible repeat (first|apply Kd.R_alloc|apply Kd.R_drewN|apply Kd.R_drew));exact HO_150000.out) hb);have n2_:=Aside0.mk (blk_below (g:=gb143) (o:=.cells #[.int .i64 a0_0,.int .i64 a0_1] 43 (0,0)) (by (with_reducible repeat (first|refine blk_drewN ?_ _|refine blk_drew ?_|refine blk_alloc ?_ _));exact BK143.out) hb);have n3_:=Aside0.mk (blk_below (g:=gb144) (o:=.cells #[.slice Ao165 x150000_65.length co165,.int .i64 a1_1,.int .i64 x145002_65] 32 (0,0)) (by (with_reducible repeat (first|refine blk_drewN ?_ _|refine blk_drew ?_|refine blk_alloc ?_ _));exact BK144.out) hb);have n4_:=Aside0.mk (blk_below (g:=gb145) (o:=.cells #[.slice none 0 0,.int .i64 0,.int .i64 0] 32 (0,0)) (by (with_reducible repeat (first|refine blk_drewN ?_ _|refine blk_drew ?_|refine blk_alloc ?_ _));exact BK145.out) hb);have n5_:=Aside0.mk (blk_below (g:=gb149) (o:=.cells #[.slice Ao165 x150000_65.length co165] 30 (0,0)) (by (with_reducible repeat (first|refine blk_drewN ?_ _|refine blk_drew ?_|refine blk_alloc ?_ _));exact BK149.out) hb);have n6_:=Aside0.mk (below_step (by repeat (first|(with_reducible first|exact HB.out|apply below_alloc|apply pw_below_drewN|apply below_drew1|refine below_set ?_ GE143.out|refine below_set ?_ GE144.out|refine below_set ?_ GE145.out|refine below_set ?_ GE149.out)|exact HB.out)) hb);clear HO_14;clear HO_150000;clear BK143;clear BK144;clear BK145;clear BK149;clear HB;have HO_14:=n0_;have HO_150000:=n1_;have BK143:=n2_;have BK144:=n3_;have BK145:=n4_;have BK149:=n5_;have HB:=n6_;clear n0_ n1_ n2_ n3_ n4_ n5_ n6_;(try clear hb);(try clear hb2);(try clear hk);(try clear hi)))
     have n0_:=Aside0.mk (Kd.R_drew HO_14.out)
     have n1_:=Aside0.mk (Kd.R_drew HO_150000.out)
     have n2_:=Aside0.mk (blk_drew BK143.out)
     have n3_:=Aside0.mk (blk_drew BK144.out)
     have n4_:=Aside0.mk (blk_drew BK145.out)
     have n5_:=Aside0.mk (blk_drew BK149.out)
     have n6_:=Aside0.mk (below_drew1 HB.out)
     clear HO_14
     clear HO_150000
     clear BK143
     clear BK144
     clear BK145
     clear BK149
     clear HB
     have HO_14:=n0_
     have HO_150000:=n1_
     have BK143:=n2_
     have BK144:=n3_
     have BK145:=n4_
     have BK149:=n5_
     have HB:=n6_
     clear n0_ n1_ n2_ n3_ n4_ n5_ n6_
     have p175 : 0 ≤ (t174 : Int):=of_decide_eq_true (by first|(with_reducible assumption)|assumption)
     have q175 : t174 < (t161.length : Int):=of_decide_eq_true (by first|(with_reducible assumption)|assumption)
     obtain ⟨ad175,e175,hx175_0⟩:=Kd.at_int (Kd.R_reads' HO_14.out).2.2 t174 p175 q175
     cases e175
     replace p175:=eq_true p175
     replace q175:=eq_true q175
     have p160 : 0 ≤ ((rd t161 t174) : Int):=of_decide_eq_true (by first|(with_reducible assumption)|assumption)
     have q160 : ((rd t161 t174) : Int) < ((x150000_65.length : Int) : Int):=of_decide_eq_true (by first|(with_reducible assumption)|assumption)
     obtain ⟨go160,co160,eo160,gb160,gl160,cl160,HG160⟩:=Kd.R_form HO_150000.out (by omega)
     (first|cases eo160|(injection eo160 with ea_ en_ ec_;(first|subst ea_|(injection ea_ with ea_;subst ea_));subst ec_;clear en_))
     have GB160:=Aside0.mk gb160
     have GG160:=Aside0.mk HG160
     clear gb160 gl160 HG160
     obtain ⟨ce160,hcl160,hM160,hcc160,hfr160⟩:=Kd.R_elem HO_150000.out z62 ((rd t161 t174) : Int) p160 q160
     obtain rfl:=k62_openM hM160
     have hx160_0 : World.cell? _ ⟨go160,((rd t161 t174) : Int).toNat * 3,none⟩ = some (.int .i64 ((rd_T62 x150000_65 (rd t161 t174)).f0)):=hcc160 0 _ rfl
     have hx160_1 : World.cell? _ ⟨go160,((rd t161 t174) : Int).toNat * 3 + 1,none⟩ = some (.bool ((rd_T62 x150000_65 (rd t161 t174)).f1)):=hcc160 1 _ rfl
     have hx160_2 : World.cell? _ ⟨go160,((rd t161 t174) : Int).toNat * 3 + 2,none⟩ = some (.bool ((rd_T62 x150000_65 (rd t161 t174)).f2)):=hcc160 2 _ rfl
     have hf160_0 : World.frozen? _ ⟨go160,((rd t161 t174) : Int).toNat * 3,none⟩ = false:=hfr160 0
     have hf160_1 : World.frozen? _ ⟨go160,((rd t161 t174) : Int).toNat * 3 + 1,none⟩ = false:=hfr160 1
     have hf160_2 : World.frozen? _ ⟨go160,((rd t161 t174) : Int).toNat * 3 + 2,none⟩ = false:=hfr160 2
     clear hcl160 hcc160 hfr160 hM160
     replace p160:=eq_true p160
     replace q160:=eq_true q160
     obtain ⟨ce176,hcl176,hM176,hcc176,hfr176⟩:=Kd.R_elem HO_150000.out z62 ((rd t161 t174) : Int) (of_decide_eq_true (by first|(with_reducible assumption)|assumption)) (by have h_ : ((rd t161 t174) : Int) < ((x150000_65.length : Int) : Int):=of_decide_eq_true (by first|(with_reducible assumption)|assumption);first|exact h_|(have e_:=(Kd.R_reads' HO_150000.out).1;omega)|simpa using h_)
     obtain rfl:=k62_openM hM176
     have HP176:=(Kd.R_seg HO_150000.out ((rd t161 t174) : Int) (of_decide_eq_true (by first|(with_reducible assumption)|assumption)) (by have h_ : ((rd t161 t174) : Int) < ((x150000_65.length : Int) : Int):=of_decide_eq_true (by first|(with_reducible assumption)|assumption);first|exact h_|(have e_:=(Kd.R_reads' HO_150000.out).1;omega)|simpa using h_) (seg:=[.bool true]) (j:=1) hcl176 hcc176 (show 2 ≤ 3 from by decide) (x':=(⟨(rd_T62 x150000_65 (rd t161 t174)).f0,true,(rd_T62 x150000_65 (rd t161 t174)).f2⟩ : S62)) (k62_mkM_of _ _ _ (⟨(rd_T62 x150000_65 (rd t161 t174)).f0,true,(rd_T62 x150000_65 (rd t161 t174)).f2⟩ : S62) (by first|rfl|exact k62_cons3 (congrArg Value.bool Nbq38.out.symm)|exact k62_cons3 (congrArg Value.bool Nbq48.out.symm))) (fun _ hk => hk)).1
     rw [← Ny176.out] at HP176
     have HQ176:=Aside0.mk HP176
     clear hcl176 hcc176 hfr176 hM176 HP176
     refine start_ (n:=8) (S:=fun w' => w'.cell? ⟨gb149,0,none⟩ = some (.slice (some ⟨go160,0,none⟩) x150000_65.length co165)∧w'.cell? (ad175.add (t174).toNat) = some (.int .i64 (rd t161 t174))) (ds:=[7]) #[false,false,false,false,false,false,false,false] (by kernel_rfl) rfl rfl ⟨(blk_cell BK149.out 0).trans rfl,hx175_0⟩ (fun hHeld => ?_);refine with_tabW leadlag_step.tab28 leadlag_step.bits28 (fun HT_ HW_ => ?_)
     generalize w174.drew = w175 at HO_14 HO_150000 BK143 BK144 BK145 BK149 HB GG160 HQ176 hf160_0 hf160_1 hf160_2 hx160_0 hx160_1 hx160_2 hx175_0 hHeld ⊢
     refine pure_ (i:=1) (N:=some 153) (v:=?_) (a':=?_) #[false,true,false,false,false,false,false,false] rfl rfl (any_of HT_.out (by kernel_rfl)) (fun _ _ _ h => h) (Or.inl ⟨by rfl,?_⟩) ?_ ?_
     rotate_left;(intro w';go_simp;with_reducible rfl);rotate_left;(simp only [Act.put,List.setIfInBounds_toArray,List.set_cons_zero,List.set_cons_succ,i64_w,i32_w];rfl)
     refine pure_ (i:=2) (N:=some 154) (v:=?_) (a':=?_) #[false,true,true,false,false,false,false,false] rfl rfl (any_of HT_.out (by kernel_rfl)) (fun _ _ _ h => h) (Or.inl ⟨by rfl,?_⟩) ?_ ?_
     rotate_left;(intro w';go_simp;with_reducible rfl);rotate_left;(simp only [Act.put,List.setIfInBounds_toArray,List.set_cons_zero,List.set_cons_succ,i64_w,i32_w];rfl)
     refine pure_ (i:=3) (N:=some 155) (v:=?_) (a':=?_) #[false,true,true,true,false,false,false,false] rfl rfl (any_of HT_.out (by kernel_rfl)) (fun _ _ _ h => h) (Or.inl ⟨by rfl,?_⟩) ?_ ?_
     rotate_left;(intro w';go_simp;with_reducible rfl);rotate_left;(simp only [Act.put,List.setIfInBounds_toArray,List.set_cons_zero,List.set_cons_succ,i64_w,i32_w];rfl)
     refine take_ (i:=0) (N:=some 152) (v:=?_) (a':=?_) #[true,true,true,true,false,false,false,false] rfl rfl (take_ofW HT_.out HW_.out (by kernel_rfl)) (fun _ _ _ h => h) (Or.inl ⟨by rfl,?_⟩) hHeld ?_ ?_
     rotate_left;(rintro w' ⟨s0,s1⟩;go_simp;with_reducible rfl);rotate_left;(simp only [Act.put,List.setIfInBounds_toArray,List.set_cons_zero,List.set_cons_succ,i64_w,i32_w];rfl)
     refine take_ (i:=4) (N:=some 156) (v:=?_) (a':=?_) #[true,true,true,true,true,false,false,false] rfl rfl (take_ofW HT_.out HW_.out (by kernel_rfl)) (fun _ _ _ h => h) (Or.inl ⟨by rfl,?_⟩) hHeld ?_ ?_
     rotate_left;(rintro w' ⟨s0,s1⟩;go_simp;with_reducible rfl);rotate_left;(simp only [Act.put,List.setIfInBounds_toArray,List.set_cons_zero,List.set_cons_succ,i64_w,i32_w];rfl)
     refine pure_ (i:=5) (N:=some 157) (v:=?_) (a':=?_) #[true,true,true,true,true,true,false,false] rfl rfl (any_of HT_.out (by kernel_rfl)) (fun _ _ _ h => h) (Or.inl ⟨by rfl,?_⟩) ?_ ?_
     rotate_left;(intro w';go_simp;with_reducible rfl);rotate_left;(simp only [Act.put,List.setIfInBounds_toArray,List.set_cons_zero,List.set_cons_succ,i64_w,i32_w];rfl)
     refine pure_ (i:=6) (N:=some 158) (v:=?_) (a':=?_) #[true,true,true,true,true,true,true,false] rfl rfl (any_of HT_.out (by kernel_rfl)) (fun _ _ _ h => h) (Or.inl ⟨by rfl,?_⟩) ?_ ?_
     rotate_left;(intro w';go_simp;with_reducible rfl);rotate_left;(simp only [Act.put,List.setIfInBounds_toArray,List.set_cons_zero,List.set_cons_succ,i64_w,i32_w];rfl)
     refine last_ (i:=7) (N:=none) #[true,true,true,true,true,true,true,true] rfl rfl (one_of HT_.out (by kernel_rfl)) (by decide) (fun K hK => ?_)
     refine skip_ (w1:=?_) (by rfl) rfl ?_ ?_
     rotate_left
     ·go_simp
      rfl
     refine hK.out _ _ ?_
     clear hK K
     refine done_ (done_of HT_.out (by kernel_rfl)) ?_
     have n0_ : Aside0 (Kd.R (Kd.int .i64) 3 (w175.setCell ⟨go160,((rd t161 t174) : Int).toNat * 3 + 1,none⟩ (.bool true)) w.heap.size (fun _ => True) (.slice (some ad175) t161.length co173) t161):=⟨by (with_reducible repeat (first|apply Kd.R_alloc|apply Kd.R_drewN|apply Kd.R_drew));exact Kd.R_mono (Kd.R_far (p:=⟨go160,((rd t161 t174) : Int).toNat * 3 + 1,none⟩) (Kd.R_types HO_14.out GG160.out (by decide)) (fun _ hk => hk.2) (.bool true)) (fun _ hk => trivial)⟩
     have n1_ : Aside0 (Kd.R k62 62 (w175.setCell ⟨go160,((rd t161 t174) : Int).toNat * 3 + 1,none⟩ (.bool true)) w.heap.size (fun _ => True) (.slice (some ⟨go160,0,none⟩) x150000_65.length co165) y176):=⟨by (with_reducible repeat (first|apply Kd.R_alloc|apply Kd.R_drewN|apply Kd.R_drew));exact HQ176.out⟩
     have n2_ : Aside0 ((w175.setCell ⟨go160,((rd t161 t174) : Int).toNat * 3 + 1,none⟩ (.bool true)).heap[gb143]? = some (.cells #[.int .i64 a0_0,.int .i64 a0_1] 43 (0,0))):=⟨by (with_reducible repeat (first|refine blk_drewN ?_ _|refine blk_drew ?_|refine blk_alloc ?_ _));refine blk_far ?_ (by have h_:=Kd.R_ne HO_150000.out BK143.out (by decide);intro e_;exact h_ (by rw [e_];rfl)) _;(with_reducible repeat (first|refine blk_drewN ?_ _|refine blk_drew ?_|refine blk_alloc ?_ _));exact BK143.out⟩
     have n3_ : Aside0 ((w175.setCell ⟨go160,((rd t161 t174) : Int).toNat * 3 + 1,none⟩ (.bool true)).heap[gb144]? = some (.cells #[.slice (some ⟨go160,0,none⟩) x150000_65.length co165,.int .i64 a1_1,.int .i64 x145002_65] 32 (0,0))):=⟨by (with_reducible repeat (first|refine blk_drewN ?_ _|refine blk_drew ?_|refine blk_alloc ?_ _));refine blk_far ?_ (by have h_:=Kd.R_ne HO_150000.out BK144.out (by decide);intro e_;exact h_ (by rw [e_];rfl)) _;(with_reducible repeat (first|refine blk_drewN ?_ _|refine blk_drew ?_|refine blk_alloc ?_ _));exact BK144.out⟩
     have n4_ : Aside0 ((w175.setCell ⟨go160,((rd t161 t174) : Int).toNat * 3 + 1,none⟩ (.bool true)).heap[gb145]? = some (.cells #[.slice none 0 0,.int .i64 0,.int .i64 0] 32 (0,0))):=⟨by (with_reducible repeat (first|refine blk_drewN ?_ _|refine blk_drew ?_|refine blk_alloc ?_ _));refine blk_far ?_ (by have h_:=Kd.R_ne HO_150000.out BK145.out (by decide);intro e_;exact h_ (by rw [e_];rfl)) _;(with_reducible repeat (first|refine blk_drewN ?_ _|refine blk_drew ?_|refine blk_alloc ?_ _));exact BK145.out⟩
     have n5_ : Aside0 ((w175.setCell ⟨go160,((rd t161 t174) : Int).toNat * 3 + 1,none⟩ (.bool true)).heap[gb149]? = some (.cells #[.slice (some ⟨go160,0,none⟩) x150000_65.length co165] 30 (0,0))):=⟨by (with_reducible repeat (first|refine blk_drewN ?_ _|refine blk_drew ?_|refine blk_alloc ?_ _));refine blk_far ?_ (by have h_:=Kd.R_ne HO_150000.out BK149.out (by decide);intro e_;exact h_ (by rw [e_];rfl)) _;(with_reducible repeat (first|refine blk_drewN ?_ _|refine blk_drew ?_|refine blk_alloc ?_ _));exact BK149.out⟩
     have n6_ : Aside0 (Below w.heap.size w (w175.setCell ⟨go160,((rd t161 t174) : Int).toNat * 3 + 1,none⟩ (.bool true))):=⟨by repeat (first|(with_reducible first|exact HB.out|apply below_alloc|apply pw_below_drewN|apply below_drew1|refine below_set ?_ GB160.out|refine below_set ?_ GE143.out|refine below_set ?_ GE144.out|refine below_set ?_ GE145.out|refine below_set ?_ GE149.out)|exact HB.out)⟩
     (try clear HO_14)
     (try clear HO_150000)
     (try clear BK143)
     (try clear BK144)
     (try clear BK145)
     (try clear BK149)
     (try clear HB)
     generalize (w175.setCell ⟨go160,((rd t161 t174) : Int).toNat * 3 + 1,none⟩ (.bool true)) = w177 at n0_ n1_ n2_ n3_ n4_ n5_ n6_ ⊢
     have HO_14:=n0_
     have HO_150000:=n1_
     have BK143:=n2_
     have BK144:=n3_
     have BK145:=n4_
     have BK149:=n5_
     have HB:=n6_
     clear n0_ n1_ n2_ n3_ n4_ n5_ n6_
     have hcz178_0 : w177.cell? ⟨gb144,0,none⟩ = some (.slice (some ⟨go160,0,none⟩) x150000_65.length co165):=(blk_cell BK144.out 0).trans rfl
     have hcz178_1 : w177.cell? ⟨gb144,1,none⟩ = some (.int .i64 a1_1):=(blk_cell BK144.out 1).trans rfl
     have hcz178_2 : w177.cell? ⟨gb144,2,none⟩ = some (.int .i64 x145002_65):=(blk_cell BK144.out 2).trans rfl
     have hfz178_0:=blk_frozen BK144.out 0
     have hfz178_1:=blk_frozen BK144.out 1
     have hfz178_2:=blk_frozen BK144.out 2
     have hcz179_0 : w177.cell? ⟨gb145,0,none⟩ = some (.slice none 0 0):=(blk_cell BK145.out 0).trans rfl
     have hcz179_1 : w177.cell? ⟨gb145,1,none⟩ = some (.int .i64 0):=(blk_cell BK145.out 1).trans rfl
     have hcz179_2 : w177.cell? ⟨gb145,2,none⟩ = some (.int .i64 0):=(blk_cell BK145.out 2).trans rfl
     have hfz179_0:=blk_frozen BK145.out 0
     have hfz179_1:=blk_frozen BK145.out 1
     have hfz179_2:=blk_frozen BK145.out 2
     try go_wp2
     refine bodyPost_ret (results_cell_row rfl _ _ gb145 32 #[.slice (some ⟨go160,0,none⟩) x150000_65.length co165,.int .i64 a4,.int .i64 x145002_65] (0,0) _ rfl (by (with_reducible repeat (first|refine blk_drewN ?_ _|refine blk_drew ?_|refine blk_alloc ?_ _));refine blk_put (cs:=#[.slice (some ⟨go160,0,none⟩) x150000_65.length co165,.int .i64 a4,.int .i64 0]) ?_ 2 _ rfl;(with_reducible repeat (first|refine blk_drewN ?_ _|refine blk_drew ?_|refine blk_alloc ?_ _));refine blk_put (cs:=#[.slice (some ⟨go160,0,none⟩) x150000_65.length co165,.int .i64 0,.int .i64 0]) ?_ 1 _ rfl;(with_reducible repeat (first|refine blk_drewN ?_ _|refine blk_drew ?_|refine blk_alloc ?_ _));refine blk_put (cs:=#[.slice none 0 0,.int .i64 0,.int .i64 0]) ?_ 0 _ rfl;(with_reducible repeat (first|refine blk_drewN ?_ _|refine blk_drew ?_|refine blk_alloc ?_ _));refine blk_far ?_ NB145_144.out _;(with_reducible repeat (first|refine blk_drewN ?_ _|refine blk_drew ?_|refine blk_alloc ?_ _));exact BK145.out) Try.underlying32 rfl (by kernel_rfl)) rfl ?_
     exact ⟨_,by first|rfl|(simp [errW_none,errW_some] <;> rfl)|(simp only [← hji63,← hji64];first|rfl|(simp [errW_none,errW_some] <;> rfl))|(simp [*,errW_none,errW_some] <;> rfl),by (with_reducible repeat (first|apply Kd.R_alloc|apply Kd.R_drewN|apply Kd.R_drew));exact Kd.R_mono (Kd.R_far (p:=⟨gb145,2,none⟩) (Kd.R_far (p:=⟨gb145,1,none⟩) (Kd.R_far (p:=⟨gb145,0,none⟩) (Kd.R_far (p:=⟨gb144,1,none⟩) (Kd.R_types (Kd.R_types HO_150000.out BK144.out (by decide)) BK145.out (by decide)) (fun _ hk => hk.1.2) (.int .i64 a4)) (fun _ hk => hk.2) (.slice (some ⟨go160,0,none⟩) x150000_65.length co165)) (fun _ hk => hk.2) (.int .i64 a4)) (fun _ hk => hk.2) (.int .i64 x145002_65)) (fun _ hk => trivial),by repeat (first|(with_reducible first|exact HB.out|apply below_alloc|apply pw_below_drewN|apply below_drew1|refine below_set ?_ GE143.out|refine below_set ?_ GE144.out|refine below_set ?_ GE145.out|refine below_set ?_ GE149.out)|exact HB.out)⟩
end Go.Proofs.Ytbecejhjdagkdaa.L
