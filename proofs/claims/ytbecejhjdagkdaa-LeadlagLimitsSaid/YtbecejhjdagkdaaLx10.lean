-- Written by pp.py (a program of this session, over the kit's print.py) out of the translation. Not trusted: Lean checks it.
import Derived.Test.YtbecejhjdagkdaaLx0
import Derived.Test.YtbecejhjdagkdaaLx1
import Derived.Test.YtbecejhjdagkdaaLx3
import Derived.Test.YtbecejhjdagkdaaLx5
import Derived.Test.YtbecejhjdagkdaaLx8
import Derived.Test.YtbecejhjdagkdaaLx9
namespace Go.Proofs.Ytbecejhjdagkdaa.L
open Go.RowKit Go.Proofs.YtbecejhjdagkdaaW.PrintWords Go.Proofs.YtbecejhjdagkdaaW.PrintLast Go.Proofs.YtbecejhjdagkdaaW.PrintMore
attribute [local go_sem] max2_int min2_int max_two min_two max_three min_three max_four min_four   -- for this text's walks alone
attribute [local go_sem] pp_mod256 pp_mod256_w
open List (setIfInBounds_toArray set_cons_zero set_cons_succ)
set_option linter.unusedVariables false
set_option linter.unusedSimpArgs false

/-! ### limits: function 7 -/
mutual
def limits.j0 : Nat→Int→List Int→List (List Bool)→Int→Bool→Int→Int→Option (Bool)
 | 0,_,_,_,_,_,_,_ => none
 | k + 1,x1,x2,x3,x4,x35,x266000,x266001 => if x35 = true then (some true) else ((leadlag_New.f k x1 x4).bind fun bt267 => (if bt267.2.2.2 = 0 then ((plenumlaw55_rule.f x266000 x266001).bind fun bt274 => ((leadlag_Check.f k bt274.1 bt274.2 bt267.1 bt267.2.1 bt267.2.2.1).bind fun t276 => (limits.j1 k x1 x2 x3 x4 (t276 != 0) x266000 x266001 bt267.1 bt267.2.1 bt267.2.2.1))) else (limits.j1 k x1 x2 x3 x4 true x266000 x266001 bt267.1 bt267.2.1 bt267.2.2.1)))
def limits.j1 : Nat→Int→List Int→List (List Bool)→Int→Bool→Int→Int→List (S62)→Int→Int→Option (Bool)
 | 0,_,_,_,_,_,_,_,_,_,_ => none
 | k + 1,x1,x2,x3,x4,x50,x266000,x266001,x274000,x274001,x274002 => if x50 = true then (some true) else (limits.l0 k x1 x2 x3 x4 (-1) 0 x266000 x266001 x274000 x274001 x274002)
def limits.l0 : Nat→Int→List Int→List (List Bool)→Int→Int→Int→Int→Int→List (S62)→Int→Int→Option (Bool)
 | 0,_,_,_,_,_,_,_,_,_,_,_ => none
 | k + 1,x1,x2,x3,x4,x13,x14,x266000,x266001,x274000,x274001,x274002 => if x14 < (x2.length : Int) then ((leadlag_Running.f k x274000 x274001 x274002).bind fun t277 => ((plenumlaw55_rule.f x266000 x266001).bind fun bt280 => (if 0 ≤ x14 then (if x14 < (x3.length : Int) then ((leadlag_Step.f k bt280.1 bt280.2 x274000 x274001 x274002 (rd x2 x14) (rd_L6 x3 x14) (wrap64 (x4 + x14))).bind fun bt284 => (if bt284.2.2.2 = 0 then (limits.l1 k x1 x2 x3 x4 x13 x14 (t277.length : Int) 0 0 x266000 x266001 x274000 x274001 x274002 bt284.1 bt284.2.1 bt284.2.2.1) else (if bt284.2.2.2 = 1 then (some (((rd_L6 x3 x14).length : Int) != x1)) else (none)))) else (none)) else (none)))) else (some true)
def limits.l1 : Nat→Int→List Int→List (List Bool)→Int→Int→Int→Int→Int→Int→Int→Int→List (S62)→Int→Int→List (S62)→Int→Int→Option (Bool)
 | 0,_,_,_,_,_,_,_,_,_,_,_,_,_,_,_,_,_ => none
 | k + 1,x1,x2,x3,x4,x13,x14,x15,x18,x19,x266000,x266001,x274000,x274001,x274002,x291000,x291001,x291002 => if x19 < (x291000.length : Int) then (if 0 ≤ x19 then (if (rd_T62 x291000 x19).f1 = true then (if 0 ≤ x14 then (if x14 < (x3.length : Int) then (if x19 < ((rd_L6 x3 x14).length : Int) then (if rdOf false (rd_L6 x3 x14) x19 = true then (none) else (if (((rd_T62 x291000 x19).f2) != (rdOf false (rd_L6 x3 x14) x19)) = true then (none) else (if x19 < (x274000.length : Int) then (if ((rd_T62 x291000 x19).f0) < ((rd_T62 x274000 x19).f0) then (none) else (limits.l1 k x1 x2 x3 x4 x13 x14 x15 (wrap64 (x18 + 1)) (wrap64 (x19 + 1)) x266000 x266001 x274000 x274001 x274002 x291000 x291001 x291002)) else (none)))) else (none)) else (none)) else (none)) else (if 0 ≤ x14 then (if x14 < (x3.length : Int) then (if x19 < ((rd_L6 x3 x14).length : Int) then (if (((rd_T62 x291000 x19).f2) != (rdOf false (rd_L6 x3 x14) x19)) = true then (none) else (if x19 < (x274000.length : Int) then (if ((rd_T62 x291000 x19).f0) < ((rd_T62 x274000 x19).f0) then (none) else (limits.l1 k x1 x2 x3 x4 x13 x14 x15 x18 (wrap64 (x19 + 1)) x266000 x266001 x274000 x274001 x274002 x291000 x291001 x291002)) else (none))) else (none)) else (none)) else (none))) else (none)) else (if 0 ≤ x14 then (if x14 < (x2.length : Int) then (if x18 > (mx 0 (rd x2 x14)) then (none) else (if x18 > x15 then (limits.j4 k x1 x2 x3 x4 x13 x14 x15 x18 true x266000 x266001 x291000 x291001 x291002) else (limits.j4 k x1 x2 x3 x4 x13 x14 x15 x18 (x291001 != x274001) x266000 x266001 x291000 x291001 x291002))) else (none)) else (none))
def limits.j4 : Nat→Int→List Int→List (List Bool)→Int→Int→Int→Int→Int→Bool→Int→Int→List (S62)→Int→Int→Option (Bool)
 | 0,_,_,_,_,_,_,_,_,_,_,_,_,_,_ => none
 | k + 1,x1,x2,x3,x4,x13,x14,x15,x18,x168,x266000,x266001,x291000,x291001,x291002 => if x168 = true then (if x18 > (wrap64 (x15 + 1)) then (none) else (if x291001 = (wrap64 (x4 + x14)) then (if x13 ≥ 0 then (if (wrap64 ((wrap64 (x4 + x14)) - x13)) < x266001 then (none) else (limits.l0 k x1 x2 x3 x4 (wrap64 (x4 + x14)) (wrap64 (x14 + 1)) x266000 x266001 x291000 x291001 x291002)) else (limits.l0 k x1 x2 x3 x4 (wrap64 (x4 + x14)) (wrap64 (x14 + 1)) x266000 x266001 x291000 x291001 x291002)) else (none))) else (limits.l0 k x1 x2 x3 x4 x13 (wrap64 (x14 + 1)) x266000 x266001 x291000 x291001 x291002)
end
def limits.f (k : Nat) (a0_0 : Int) (a0_1 : Int) (a1 : Int) (l2 : List Int) (l3 : List (List Bool)) (a4 : Int) : Option (Bool):=(plenumlaw55_awake.f k).bind fun t266 => (if t266 = true then (if (l2.length : Int) > 100 then (limits.j0 k a1 l2 l3 a4 true a0_0 a0_1) else (if (l3.length : Int) = (l2.length : Int) then (limits.j0 k a1 l2 l3 a4 (decide (a4 > 1000000000)) a0_0 a0_1) else (limits.j0 k a1 l2 l3 a4 true a0_0 a0_1))) else (none))
theorem limits.mono_l : ∀ k,(∀ y0 y1 y2 y3 y4 y5 y6,LeO (limits.j0 k y0 y1 y2 y3 y4 y5 y6) (limits.j0 (k + 1) y0 y1 y2 y3 y4 y5 y6))∧(∀ y0 y1 y2 y3 y4 y5 y6 y7 y8 y9,LeO (limits.j1 k y0 y1 y2 y3 y4 y5 y6 y7 y8 y9) (limits.j1 (k + 1) y0 y1 y2 y3 y4 y5 y6 y7 y8 y9))∧(∀ y0 y1 y2 y3 y4 y5 y6 y7 y8 y9 y10,LeO (limits.l0 k y0 y1 y2 y3 y4 y5 y6 y7 y8 y9 y10) (limits.l0 (k + 1) y0 y1 y2 y3 y4 y5 y6 y7 y8 y9 y10))∧(∀ y0 y1 y2 y3 y4 y5 y6 y7 y8 y9 y10 y11 y12 y13 y14 y15 y16,LeO (limits.l1 k y0 y1 y2 y3 y4 y5 y6 y7 y8 y9 y10 y11 y12 y13 y14 y15 y16) (limits.l1 (k + 1) y0 y1 y2 y3 y4 y5 y6 y7 y8 y9 y10 y11 y12 y13 y14 y15 y16))∧(∀ y0 y1 y2 y3 y4 y5 y6 y7 y8 y9 y10 y11 y12 y13,LeO (limits.j4 k y0 y1 y2 y3 y4 y5 y6 y7 y8 y9 y10 y11 y12 y13) (limits.j4 (k + 1) y0 y1 y2 y3 y4 y5 y6 y7 y8 y9 y10 y11 y12 y13))
 | 0 => ⟨fun _ _ _ _ _ _ _ r h => by simp [limits.j0] at h,fun _ _ _ _ _ _ _ _ _ _ r h => by simp [limits.j1] at h,fun _ _ _ _ _ _ _ _ _ _ _ r h => by simp [limits.l0] at h,fun _ _ _ _ _ _ _ _ _ _ _ _ _ _ _ _ _ r h => by simp [limits.l1] at h,fun _ _ _ _ _ _ _ _ _ _ _ _ _ _ r h => by simp [limits.j4] at h⟩
 | k + 1 => by
  obtain ⟨ih0,ih1,ih2,ih3,ih4⟩:=limits.mono_l k
  refine ⟨?_,?_,?_,?_,?_⟩
  ·intro y0 y1 y2 y3 y4 y5 y6
   unfold limits.j0
   repeat' first
   | (with_reducible exact ih0 _ _ _ _ _ _ _)
   | (with_reducible exact ih1 _ _ _ _ _ _ _ _ _ _)
   | (with_reducible exact ih2 _ _ _ _ _ _ _ _ _ _ _)
   | (with_reducible exact ih3 _ _ _ _ _ _ _ _ _ _ _ _ _ _ _ _ _)
   | (with_reducible exact ih4 _ _ _ _ _ _ _ _ _ _ _ _ _ _)
   | (with_reducible exact leadlag_Check.mono _ _ _ _ _ _)
   | (with_reducible exact leadlag_New.mono _ _ _)
   | (with_reducible exact leadlag_Running.mono _ _ _ _)
   | (with_reducible exact leadlag_Step.mono _ _ _ _ _ _ _ _ _)
   | (with_reducible exact plenumlaw55_awake.mono _)
   | (with_reducible exact LeO.refl _)
   | (with_reducible exact LeO.none _)
   | (with_reducible refine LeO.ite ?_ ?_)
   | (with_reducible refine LeO.bind ?_ (fun _ => ?_))
   | exact ih0 _ _ _ _ _ _ _
   | exact ih1 _ _ _ _ _ _ _ _ _ _
   | exact ih2 _ _ _ _ _ _ _ _ _ _ _
   | exact ih3 _ _ _ _ _ _ _ _ _ _ _ _ _ _ _ _ _
   | exact ih4 _ _ _ _ _ _ _ _ _ _ _ _ _ _
   | exact leadlag_Check.mono _ _ _ _ _ _
   | exact leadlag_New.mono _ _ _
   | exact leadlag_Running.mono _ _ _ _
   | exact leadlag_Step.mono _ _ _ _ _ _ _ _ _
   | exact plenumlaw55_awake.mono _
   | exact LeO.none _
   | refine LeO.ite ?_ ?_
   | refine LeO.bind ?_ (fun _ => ?_)
  ·intro y0 y1 y2 y3 y4 y5 y6 y7 y8 y9
   unfold limits.j1
   repeat' first
   | (with_reducible exact ih0 _ _ _ _ _ _ _)
   | (with_reducible exact ih1 _ _ _ _ _ _ _ _ _ _)
   | (with_reducible exact ih2 _ _ _ _ _ _ _ _ _ _ _)
   | (with_reducible exact ih3 _ _ _ _ _ _ _ _ _ _ _ _ _ _ _ _ _)
   | (with_reducible exact ih4 _ _ _ _ _ _ _ _ _ _ _ _ _ _)
   | (with_reducible exact leadlag_Check.mono _ _ _ _ _ _)
   | (with_reducible exact leadlag_New.mono _ _ _)
   | (with_reducible exact leadlag_Running.mono _ _ _ _)
   | (with_reducible exact leadlag_Step.mono _ _ _ _ _ _ _ _ _)
   | (with_reducible exact plenumlaw55_awake.mono _)
   | (with_reducible exact LeO.refl _)
   | (with_reducible exact LeO.none _)
   | (with_reducible refine LeO.ite ?_ ?_)
   | (with_reducible refine LeO.bind ?_ (fun _ => ?_))
   | exact ih0 _ _ _ _ _ _ _
   | exact ih1 _ _ _ _ _ _ _ _ _ _
   | exact ih2 _ _ _ _ _ _ _ _ _ _ _
   | exact ih3 _ _ _ _ _ _ _ _ _ _ _ _ _ _ _ _ _
   | exact ih4 _ _ _ _ _ _ _ _ _ _ _ _ _ _
   | exact leadlag_Check.mono _ _ _ _ _ _
   | exact leadlag_New.mono _ _ _
   | exact leadlag_Running.mono _ _ _ _
   | exact leadlag_Step.mono _ _ _ _ _ _ _ _ _
   | exact plenumlaw55_awake.mono _
   | exact LeO.none _
   | refine LeO.ite ?_ ?_
   | refine LeO.bind ?_ (fun _ => ?_)
  ·intro y0 y1 y2 y3 y4 y5 y6 y7 y8 y9 y10
   unfold limits.l0
   repeat' first
   | (with_reducible exact ih0 _ _ _ _ _ _ _)
   | (with_reducible exact ih1 _ _ _ _ _ _ _ _ _ _)
   | (with_reducible exact ih2 _ _ _ _ _ _ _ _ _ _ _)
   | (with_reducible exact ih3 _ _ _ _ _ _ _ _ _ _ _ _ _ _ _ _ _)
   | (with_reducible exact ih4 _ _ _ _ _ _ _ _ _ _ _ _ _ _)
   | (with_reducible exact leadlag_Check.mono _ _ _ _ _ _)
   | (with_reducible exact leadlag_New.mono _ _ _)
   | (with_reducible exact leadlag_Running.mono _ _ _ _)
   | (with_reducible exact leadlag_Step.mono _ _ _ _ _ _ _ _ _)
   | (with_reducible exact plenumlaw55_awake.mono _)
   | (with_reducible exact LeO.refl _)
   | (with_reducible exact LeO.none _)
   | (with_reducible refine LeO.ite ?_ ?_)
   | (with_reducible refine LeO.bind ?_ (fun _ => ?_))
   | exact ih0 _ _ _ _ _ _ _
   | exact ih1 _ _ _ _ _ _ _ _ _ _
   | exact ih2 _ _ _ _ _ _ _ _ _ _ _
   | exact ih3 _ _ _ _ _ _ _ _ _ _ _ _ _ _ _ _ _
   | exact ih4 _ _ _ _ _ _ _ _ _ _ _ _ _ _
   | exact leadlag_Check.mono _ _ _ _ _ _
   | exact leadlag_New.mono _ _ _
   | exact leadlag_Running.mono _ _ _ _
   | exact leadlag_Step.mono _ _ _ _ _ _ _ _ _
   | exact plenumlaw55_awake.mono _
   | exact LeO.none _
   | refine LeO.ite ?_ ?_
   | refine LeO.bind ?_ (fun _ => ?_)
  ·intro y0 y1 y2 y3 y4 y5 y6 y7 y8 y9 y10 y11 y12 y13 y14 y15 y16
   unfold limits.l1
   repeat' first
   | (with_reducible exact ih0 _ _ _ _ _ _ _)
   | (with_reducible exact ih1 _ _ _ _ _ _ _ _ _ _)
   | (with_reducible exact ih2 _ _ _ _ _ _ _ _ _ _ _)
   | (with_reducible exact ih3 _ _ _ _ _ _ _ _ _ _ _ _ _ _ _ _ _)
   | (with_reducible exact ih4 _ _ _ _ _ _ _ _ _ _ _ _ _ _)
   | (with_reducible exact leadlag_Check.mono _ _ _ _ _ _)
   | (with_reducible exact leadlag_New.mono _ _ _)
   | (with_reducible exact leadlag_Running.mono _ _ _ _)
   | (with_reducible exact leadlag_Step.mono _ _ _ _ _ _ _ _ _)
   | (with_reducible exact plenumlaw55_awake.mono _)
   | (with_reducible exact LeO.refl _)
   | (with_reducible exact LeO.none _)
   | (with_reducible refine LeO.ite ?_ ?_)
   | (with_reducible refine LeO.bind ?_ (fun _ => ?_))
   | exact ih0 _ _ _ _ _ _ _
   | exact ih1 _ _ _ _ _ _ _ _ _ _
   | exact ih2 _ _ _ _ _ _ _ _ _ _ _
   | exact ih3 _ _ _ _ _ _ _ _ _ _ _ _ _ _ _ _ _
   | exact ih4 _ _ _ _ _ _ _ _ _ _ _ _ _ _
   | exact leadlag_Check.mono _ _ _ _ _ _
   | exact leadlag_New.mono _ _ _
   | exact leadlag_Running.mono _ _ _ _
   | exact leadlag_Step.mono _ _ _ _ _ _ _ _ _
   | exact plenumlaw55_awake.mono _
   | exact LeO.none _
   | refine LeO.ite ?_ ?_
   | refine LeO.bind ?_ (fun _ => ?_)
  ·intro y0 y1 y2 y3 y4 y5 y6 y7 y8 y9 y10 y11 y12 y13
   unfold limits.j4
   repeat' first
   | (with_reducible exact ih0 _ _ _ _ _ _ _)
   | (with_reducible exact ih1 _ _ _ _ _ _ _ _ _ _)
   | (with_reducible exact ih2 _ _ _ _ _ _ _ _ _ _ _)
   | (with_reducible exact ih3 _ _ _ _ _ _ _ _ _ _ _ _ _ _ _ _ _)
   | (with_reducible exact ih4 _ _ _ _ _ _ _ _ _ _ _ _ _ _)
   | (with_reducible exact leadlag_Check.mono _ _ _ _ _ _)
   | (with_reducible exact leadlag_New.mono _ _ _)
   | (with_reducible exact leadlag_Running.mono _ _ _ _)
   | (with_reducible exact leadlag_Step.mono _ _ _ _ _ _ _ _ _)
   | (with_reducible exact plenumlaw55_awake.mono _)
   | (with_reducible exact LeO.refl _)
   | (with_reducible exact LeO.none _)
   | (with_reducible refine LeO.ite ?_ ?_)
   | (with_reducible refine LeO.bind ?_ (fun _ => ?_))
   | exact ih0 _ _ _ _ _ _ _
   | exact ih1 _ _ _ _ _ _ _ _ _ _
   | exact ih2 _ _ _ _ _ _ _ _ _ _ _
   | exact ih3 _ _ _ _ _ _ _ _ _ _ _ _ _ _ _ _ _
   | exact ih4 _ _ _ _ _ _ _ _ _ _ _ _ _ _
   | exact leadlag_Check.mono _ _ _ _ _ _
   | exact leadlag_New.mono _ _ _
   | exact leadlag_Running.mono _ _ _ _
   | exact leadlag_Step.mono _ _ _ _ _ _ _ _ _
   | exact plenumlaw55_awake.mono _
   | exact LeO.none _
   | refine LeO.ite ?_ ?_
   | refine LeO.bind ?_ (fun _ => ?_)
theorem limits.mono : ∀ a0 a1 a2 a3 a4 a5 k,LeO (limits.f k a0 a1 a2 a3 a4 a5) (limits.f (k + 1) a0 a1 a2 a3 a4 a5):=by
 intro a0 a1 a2 a3 a4 a5 k
 obtain ⟨ih0,ih1,ih2,ih3,ih4⟩:=limits.mono_l k
 unfold limits.f
 repeat' first
   | (with_reducible exact ih0 _ _ _ _ _ _ _)
   | (with_reducible exact ih1 _ _ _ _ _ _ _ _ _ _)
   | (with_reducible exact ih2 _ _ _ _ _ _ _ _ _ _ _)
   | (with_reducible exact ih3 _ _ _ _ _ _ _ _ _ _ _ _ _ _ _ _ _)
   | (with_reducible exact ih4 _ _ _ _ _ _ _ _ _ _ _ _ _ _)
   | (with_reducible exact leadlag_Check.mono _ _ _ _ _ _)
   | (with_reducible exact leadlag_New.mono _ _ _)
   | (with_reducible exact leadlag_Running.mono _ _ _ _)
   | (with_reducible exact leadlag_Step.mono _ _ _ _ _ _ _ _ _)
   | (with_reducible exact plenumlaw55_awake.mono _)
   | (with_reducible exact LeO.refl _)
   | (with_reducible exact LeO.none _)
   | (with_reducible refine LeO.ite ?_ ?_)
   | (with_reducible refine LeO.bind ?_ (fun _ => ?_))
   | exact ih0 _ _ _ _ _ _ _
   | exact ih1 _ _ _ _ _ _ _ _ _ _
   | exact ih2 _ _ _ _ _ _ _ _ _ _ _
   | exact ih3 _ _ _ _ _ _ _ _ _ _ _ _ _ _ _ _ _
   | exact ih4 _ _ _ _ _ _ _ _ _ _ _ _ _ _
   | exact leadlag_Check.mono _ _ _ _ _ _
   | exact leadlag_New.mono _ _ _
   | exact leadlag_Running.mono _ _ _ _
   | exact leadlag_Step.mono _ _ _ _ _ _ _ _ _
   | exact plenumlaw55_awake.mono _
   | exact LeO.none _
   | refine LeO.ite ?_ ?_
   | refine LeO.bind ?_ (fun _ => ?_)
def limits.T6 : Bool × List (List Nat × List Nat):=(true,[([],[]),([0],[0]),([1],[1]),([2],[2]),([3,2,2],[2,3]),([2],[2]),([4,5,4,2],[2,4,5]),([6,2],[2,6]),([2,7],[2,7])])
def limits.B6 : List Nat:=[0,1,3,7,15,7,63,127,255]
theorem limits.tab6 : rtab .any (opsOf Try.f7 6) = limits.T6:=by kernel_rfl
theorem limits.bits6 : waitsOk limits.T6.2 limits.B6 = true:=by kernel_rfl
def limits.T13 : Bool × List (List Nat × List Nat):=(true,[([],[]),([0],[0]),([],[]),([],[]),([],[]),([3,4],[3,4]),([5],[5]),([],[]),([],[]),([7,8],[7,8]),([9],[9]),([],[]),([],[]),([11,12],[11,12]),([1,2,6,10,13,1],[1,2,6,10,13]),([14],[14]),([15],[15]),([15],[15]),([],[]),([18,16,14,0,1,2,3,4,5,6,7,8,9,10,11,12,13,14,15,16,18],[16,18]),([17,19,0,1,2,3,4,5,6,7,8,9,10,11,12,13,14,15,16,17,18,19],[17])])
def limits.B13 : List Nat:=[0,1,0,0,0,24,56,0,0,384,896,0,0,6144,16383,32767,65535,65535,0,393215,1048575]
theorem limits.tab13 : rtab .any (opsOf Try.f7 13) = limits.T13:=by kernel_rfl
theorem limits.bits13 : waitsOk limits.T13.2 limits.B13 = true:=by kernel_rfl
def limits.T22 : Bool × List (List Nat × List Nat):=(true,[([],[]),([0],[0]),([],[]),([1,2],[1,2]),([3],[3]),([4],[4]),([5],[5]),([6],[6]),([6],[6]),([7,8,6],[6,7,8]),([9,6],[6,9]),([6],[6]),([10,11,6],[6,10,11]),([12,6],[6,12]),([6,13],[6,13]),([14,6],[14]),([15],[15]),([16,15],[15,16]),([15],[15]),([17,18,15],[15,17,18]),([19,15],[15,19]),([20,15],[15,20]),([15],[15]),([15],[15]),([22,23,15],[15,22,23]),([24,15],[15,24]),([15],[15]),([25,26,15],[15,25,26]),([27,15],[15,27]),([21,28,15],[15,21,28]),([15,29],[15,29]),([30,15],[30]),([31],[31]),([32,31],[31,32]),([31],[31]),([33,34,31],[31,33,34]),([35,31],[31,35]),([36,31],[31,36]),([31],[31]),([38,31],[31,38]),([31],[31]),([39,40,31],[31,39,40]),([41,31],[31,41]),([42,31],[31,42]),([37,43,31],[31,37,43]),([31,44],[31,44])])
def limits.B22 : List Nat:=[0,1,0,7,15,31,63,127,127,511,1023,127,4095,8191,16383,32767,65535,131071,65535,524287,1048575,2097151,65535,65535,12648447,29425663,65535,130088959,264306687,536870911,1073741823,2147483647,4294967295,8589934591,4294967295,34359738367,68719476735,137438953471,4294967295,279172874239,4294967295,1928440315903,4127463571455,8525510082559,17592186044415,35184372088831]
theorem limits.tab22 : rtab .any (opsOf Try.f7 22) = limits.T22:=by kernel_rfl
theorem limits.bits22 : waitsOk limits.T22.2 limits.B22 = true:=by kernel_rfl
set_option maxHeartbeats 8000000 in
set_option maxRecDepth 100000 in
theorem limits.calls (k : Nat) (a0_0 : Int) (a0_1 : Int) (a1 : Int) (A2 : Option Addr) (c2 : Nat) (l2 : List Int) (A3 : Option Addr) (c3 : Nat) (l3 : List (List Bool)) (a4 : Int) (r : Bool) (w : World) (hr2 : Kd.C (Kd.int .i64) w A2 l2.length l2) (hc2 : l2.length ≤ c2) (hr3 : Kd.C (Kd.slice 4 Kd.bool) w A3 l3.length l3) (hc3 : l3.length ≤ c3) (h : limits.f k a0_0 a0_1 a1 l2 l3 a4 = some r) :
  Calls Try.prog 7 #[.agg #[.int .i64 a0_0,.int .i64 a0_1],.int .i64 a1,.slice A2 l2.length c2,.slice A3 l3.length c3,.int .i64 a4] w fun e w' => e = .returned (.bool r)∧Below w.heap.size w w':=by
 have hu23:=Try.underlying23
 have hu32:=Try.underlying32
 have HR2:=Aside0.mk hr2
 have HC2:=Aside0.mk hc2
 clear hr2 hc2
 have HR3:=Aside0.mk hr3
 have HC3:=Aside0.mk hc3
 clear hr3 hc3
 have HB:=Aside0.mk (Below.refl w.heap.size w)
 have H : ((plenumlaw55_awake.f k).bind fun t266 => (if t266 = true then (if (l2.length : Int) > 100 then (limits.j0 k a1 l2 l3 a4 true a0_0 a0_1) else (if (l3.length : Int) = (l2.length : Int) then (limits.j0 k a1 l2 l3 a4 (decide (a4 > 1000000000)) a0_0 a0_1) else (limits.j0 k a1 l2 l3 a4 true a0_0 a0_1))) else (none))) = some r:=h
 clear h
 replace H:=Option.bind_eq_some_iff.mp H
 obtain ⟨t266,A60,H⟩:=H
 replace H : (if t266 = true then (if (l2.length : Int) > 100 then (limits.j0 k a1 l2 l3 a4 true a0_0 a0_1) else (if (l3.length : Int) = (l2.length : Int) then (limits.j0 k a1 l2 l3 a4 (decide (a4 > 1000000000)) a0_0 a0_1) else (limits.j0 k a1 l2 l3 a4 true a0_0 a0_1))) else (none)) = some r:=H
 have A6:=Aside0.mk A60
 clear A60
 by_cases c7 : t266 = true
 rotate_left
 ·replace c7:=Bool.eq_false_iff.mpr c7
  subst c7
  have H1 : (none) = some r:=by rw [if_neg (show ¬ (false = true) by decide)] at H;exact H
  clear H
  have H:=H1
  clear H1
  exact absurd H (by simp)

 subst c7
 have H1 : (if (l2.length : Int) > 100 then (limits.j0 k a1 l2 l3 a4 true a0_0 a0_1) else (if (l3.length : Int) = (l2.length : Int) then (limits.j0 k a1 l2 l3 a4 (decide (a4 > 1000000000)) a0_0 a0_1) else (limits.j0 k a1 l2 l3 a4 true a0_0 a0_1))) = some r:=by rw [if_pos rfl] at H;exact H
 clear H
 have H:=H1
 clear H1
 have HC8:=Aside0.mk H
 clear H
 go_enter Try.func7,Try.ntmps7
 go_upto_region 3 with (first|((with_reducible refine gate_dst (N:=5) rfl ?_);refine box_event ?hg (N:=5) ?hd (cs:=#[.int .i64 a0_0,.int .i64 a0_1]) (t:=23) ?hr ?_;(case hd => rfl);(case hg => rfl);(case hr => first|(go_simp;done)|(go_simp;rfl));intro gb265 hg w9 hbox hb;have n0_:=Aside0.mk (below_step (by repeat (first|(with_reducible first|exact HB.out|apply below_alloc|apply pw_below_drewN|apply below_drew1)|exact HB.out)) hb);have n1_:=Aside0.mk (hbox);have n2_:=Aside0.mk ((by rw [hg];exact (below_size (by repeat (first|(with_reducible first|exact HB.out|apply below_alloc|apply pw_below_drewN|apply below_drew1)|exact HB.out))) : w.heap.size ≤ gb265));have n3_:=Aside0.mk ((by rw [hg];exact (below_size (by repeat (first|(with_reducible first|exact HB.out|apply below_alloc|apply pw_below_drewN|apply below_drew1)|exact HB.out))) : w.heap.size ≤ gb265));clear HB;have HB:=n0_;have BK265:=n1_;have GW265:=n2_;have GE265:=n3_;clear n0_ n1_ n2_ n3_;clear hb hbox hg)|((with_reducible refine gate_callee (f:=8) rfl ?_);refine goesL_ (some 20) rfl rfl Try.func8 (by kernel_rfl) rfl #[] rfl (by (try simp only [List.map_toArray,List.map_cons,List.map_nil]);first|done|rfl|(simp only [List.length_drop,List.length_take];rfl)) ?_;(with_reducible refine (plenumlaw55_awake.calls k  true _ A6.out).mono ?_);rintro e w10 ⟨rfl,hb⟩;refine ⟨_,rfl,?_⟩;have n0_:=Aside0.mk (blk_below (g:=gb265) (o:=.cells #[.int .i64 a0_0,.int .i64 a0_1] 23 (0,0)) (by (with_reducible repeat (first|refine blk_drewN ?_ _|refine blk_drew ?_|refine blk_alloc ?_ _));exact BK265.out) hb);have n1_:=Aside0.mk (below_step (by repeat (first|(with_reducible first|exact HB.out|apply below_alloc|apply pw_below_drewN|apply below_drew1|refine below_set ?_ GE265.out)|exact HB.out)) hb);clear BK265;clear HB;have BK265:=n0_;have HB:=n1_;clear n0_ n1_;(try clear hb);(try clear hb2);(try clear hk);(try clear hi)))
 (try simp only [Act.put,setIfInBounds_toArray,set_cons_zero,set_cons_succ])
 go_cut [35] (fun v35 wc => ∃ (kq : Nat) (x35_7 : Bool),v35 = .bool x35_7∧Aside0 (limits.j0 kq a1 l2 l3 a4 x35_7 a0_0 a0_1 = some r)∧Aside0 (kq ≤ k)∧Aside0 (wc.heap[gb265]? = some (.cells #[.int .i64 a0_0,.int .i64 a0_1] 23 (0,0)))∧Aside0 (Below w.heap.size w wc))
 case first =>
  as_aux_lemma =>
  have H:=HC8.out
  clear HC8
  by_cases c11 : (l2.length : Int) > 100
  ·rw [if_pos c11] at H
   have c11b0 : decide (100 < (l2.length : Int)) = true:=decide_eq_true c11
   have c11b1 : decide (100 < l2.length) = true:=decide_eq_true (by omega)
   clear c11
   (first|rw [c11b0]|(simp only [i64_w,i32_w];rw [c11b0])|skip)
   have H':=Aside0.mk H
   clear H
   go_wp2
   go_meet
   case rel => exact ⟨_,(true),(by first|rfl|(simp;done)|(simp [*];done)),H',⟨by first|omega|exact Nat.le_refl _⟩,⟨by (with_reducible repeat (first|refine blk_drewN ?_ _|refine blk_drew ?_|refine blk_alloc ?_ _));exact BK265.out⟩,⟨by repeat (first|(with_reducible first|exact HB.out|apply below_alloc|apply pw_below_drewN|apply below_drew1|refine below_set ?_ GE265.out)|exact HB.out)⟩⟩
  rw [if_neg c11] at H
  have c11b0 : decide (100 < (l2.length : Int)) = false:=decide_eq_false c11
  have c11b1 : decide (100 < l2.length) = false:=decide_eq_false (by omega)
  clear c11
  (first|rw [c11b0]|(simp only [i64_w,i32_w];rw [c11b0])|skip)
  by_cases c12 : (l3.length : Int) = (l2.length : Int)
  rotate_left
  ·rw [if_neg c12] at H
   have c12b0 : ((l3.length : Int) == (l2.length : Int)) = false:=beq_eq_false_iff_ne.mpr c12
   have c12b1 : ((l3.length : Int) != (l2.length : Int)) = true:=bne_iff_ne.mpr c12
   have c12b2 : (l3.length == l2.length) = false:=by first|simpa using c12|(simp at c12 ⊢;omega)
   have H':=Aside0.mk H
   clear H
   go_wp2
   go_meet
   case rel => exact ⟨_,(true),(by first|rfl|(simp;done)|(simp [*];done)),H',⟨by first|omega|exact Nat.le_refl _⟩,⟨by (with_reducible repeat (first|refine blk_drewN ?_ _|refine blk_drew ?_|refine blk_alloc ?_ _));exact BK265.out⟩,⟨by repeat (first|(with_reducible first|exact HB.out|apply below_alloc|apply pw_below_drewN|apply below_drew1|refine below_set ?_ GE265.out)|exact HB.out)⟩⟩
  rw [if_pos c12] at H
  have c12b0 : ((l3.length : Int) == (l2.length : Int)) = true:=beq_iff_eq.mpr c12
  have c12b1 : ((l3.length : Int) != (l2.length : Int)) = false:=bne_eq_false_iff_eq.mpr c12
  have c12b2 : (l3.length == l2.length) = true:=by first|simpa using c12|(simp at c12 ⊢;omega)
  clear c12
  have H':=Aside0.mk H
  clear H
  go_wp2
  go_meet
  case rel => exact ⟨_,(decide (a4 > 1000000000)),(by first|rfl|(simp;done)|(simp [*];done)),H',⟨by first|omega|exact Nat.le_refl _⟩,⟨by (with_reducible repeat (first|refine blk_drewN ?_ _|refine blk_drew ?_|refine blk_alloc ?_ _));exact BK265.out⟩,⟨by repeat (first|(with_reducible first|exact HB.out|apply below_alloc|apply pw_below_drewN|apply below_drew1|refine below_set ?_ GE265.out)|exact HB.out)⟩⟩
 case rest =>
  as_aux_lemma =>
  clear HC8
  (try clear c1);(try clear c2);(try clear p2);(try clear c3);(try clear c7);(try clear c8);(try clear c11);(try clear c11b0);(try clear c11b1);(try clear c12);(try clear c12b0);(try clear c12b1);(try clear c12b2)
  obtain ⟨kq,x35_7,rfl,HA,HJ7,BK265,HB⟩:=hcut
  cases kq with
  | zero => exact absurd HA.out (by simp [limits.j0])
  | succ kj7 =>
   have H:=HA.out
   clear HA
   simp only [limits.j0] at H
   by_cases c13 : x35_7 = true
   ·subst c13
    have H1 : (some true) = some r:=by rw [if_pos rfl] at H;exact H
    clear H
    have H:=H1
    clear H1
    obtain rfl:=Option.some.inj H
    go_wp2
    go_ret
    exact ⟨by first|rfl|(simp [errW_none,errW_some] <;> rfl)|(simp [*,errW_none,errW_some] <;> rfl),by repeat (first|(with_reducible first|exact HB.out|apply below_alloc|apply pw_below_drewN|apply below_drew1|refine below_set ?_ GE265.out)|exact HB.out)⟩
   replace c13:=Bool.eq_false_iff.mpr c13
   subst c13
   have H1 : ((leadlag_New.f kj7 a1 a4).bind fun bt267 => (if bt267.2.2.2 = 0 then ((plenumlaw55_rule.f a0_0 a0_1).bind fun bt274 => ((leadlag_Check.f kj7 bt274.1 bt274.2 bt267.1 bt267.2.1 bt267.2.2.1).bind fun t276 => (limits.j1 kj7 a1 l2 l3 a4 (t276 != 0) a0_0 a0_1 bt267.1 bt267.2.1 bt267.2.2.1))) else (limits.j1 kj7 a1 l2 l3 a4 true a0_0 a0_1 bt267.1 bt267.2.1 bt267.2.2.1))) = some r:=by rw [if_neg (show ¬ (false = true) by decide)] at H;exact H
   clear H
   have H:=H1
   clear H1
   replace H:=Option.bind_eq_some_iff.mp H
   obtain ⟨⟨t267,t270,t271,t272⟩,A140,H⟩:=H
   replace H : (if t272 = 0 then ((plenumlaw55_rule.f a0_0 a0_1).bind fun bt274 => ((leadlag_Check.f kj7 bt274.1 bt274.2 t267 t270 t271).bind fun t276 => (limits.j1 kj7 a1 l2 l3 a4 (t276 != 0) a0_0 a0_1 t267 t270 t271))) else (limits.j1 kj7 a1 l2 l3 a4 true a0_0 a0_1 t267 t270 t271)) = some r:=H
   have A14:=Aside0.mk A140
   clear A140
   have HC15:=Aside0.mk H
   clear H
   go_upto_region 6 with (first|((with_reducible refine gate_callee (f:=10) rfl ?_);refine goesL_ (some 39) rfl rfl Try.func10 (by kernel_rfl) rfl #[.int .i64 a1,.int .i64 a4] rfl (by (try simp only [List.map_toArray,List.map_cons,List.map_nil]);first|done|rfl|(simp only [List.length_drop,List.length_take];rfl)) ?_;(with_reducible refine (leadlag_New.calls kj7 a1 a4 t267 t270 t271 t272 _ A14.out).mono ?_);rintro e w16 ⟨v268,rfl,ho0,hb⟩;refine ⟨_,rfl,?_⟩;have n0_:=Aside0.mk (Kd.R_lower ho0 (below_size (by repeat (first|(with_reducible first|exact HB.out|apply below_alloc|apply pw_below_drewN|apply below_drew1|refine below_set ?_ GE265.out)|exact HB.out))));have n1_:=Aside0.mk (blk_below (g:=gb265) (o:=.cells #[.int .i64 a0_0,.int .i64 a0_1] 23 (0,0)) (by (with_reducible repeat (first|refine blk_drewN ?_ _|refine blk_drew ?_|refine blk_alloc ?_ _));exact BK265.out) hb);have n2_:=Aside0.mk (below_step (by repeat (first|(with_reducible first|exact HB.out|apply below_alloc|apply pw_below_drewN|apply below_drew1|refine below_set ?_ GE265.out)|exact HB.out)) hb);clear BK265;clear HB;have HO269:=n0_;have BK265:=n1_;have HB:=n2_;clear n0_ n1_ n2_;(try clear hb);(try clear hb2);(try clear hk);(try clear hi);(try clear ho0))|((with_reducible refine gate_dst (N:=11) rfl ?_);refine box_event ?hg (N:=11) ?hd (cs:=#[.slice none 0 0,.int .i64 0,.int .i64 0]) (t:=32) ?hr ?_;(case hd => rfl);(case hg => rfl);(case hr => first|(go_simp;done)|(go_simp;rfl));intro gb273 hg w17 hbox hb;have n0_:=Aside0.mk (Kd.R_below (by (with_reducible repeat (first|apply Kd.R_alloc|apply Kd.R_drewN|apply Kd.R_drew));exact HO269.out) hb);have n1_:=Aside0.mk (blk_below (g:=gb265) (o:=.cells #[.int .i64 a0_0,.int .i64 a0_1] 23 (0,0)) (by (with_reducible repeat (first|refine blk_drewN ?_ _|refine blk_drew ?_|refine blk_alloc ?_ _));exact BK265.out) hb);have n2_:=Aside0.mk (below_step (by repeat (first|(with_reducible first|exact HB.out|apply below_alloc|apply pw_below_drewN|apply below_drew1|refine below_set ?_ GE265.out)|exact HB.out)) hb);have n3_:=Aside0.mk (hbox);have n4_:=Aside0.mk ((by rw [hg];exact (below_size (by repeat (first|(with_reducible first|exact HB.out|apply below_alloc|apply pw_below_drewN|apply below_drew1|refine below_set ?_ GE265.out)|exact HB.out))) : w.heap.size ≤ gb273));have n5_:=Aside0.mk ((by rw [hg];exact (below_size (by repeat (first|(with_reducible first|exact HB.out|apply below_alloc|apply pw_below_drewN|apply below_drew1|refine below_set ?_ GE265.out)|exact HB.out))) : w.heap.size ≤ gb273));have n6_:=Aside0.mk ((by rw [hg];exact Nat.ne_of_lt (blk_lt (g:=gb265) (o:=.cells #[.int .i64 a0_0,.int .i64 a0_1] 23 (0,0)) (by (with_reducible repeat (first|refine blk_drewN ?_ _|refine blk_drew ?_|refine blk_alloc ?_ _));exact BK265.out)) : gb265 ≠ gb273));have n7_:=Aside0.mk ((by rw [hg];exact Nat.ne_of_gt (blk_lt (g:=gb265) (o:=.cells #[.int .i64 a0_0,.int .i64 a0_1] 23 (0,0)) (by (with_reducible repeat (first|refine blk_drewN ?_ _|refine blk_drew ?_|refine blk_alloc ?_ _));exact BK265.out)) : gb273 ≠ gb265));clear HO269;clear BK265;clear HB;have HO269:=n0_;have BK265:=n1_;have HB:=n2_;have BK273:=n3_;have GW273:=n4_;have GE273:=n5_;have NB265_273:=n6_;have NB273_265:=n7_;clear n0_ n1_ n2_ n3_ n4_ n5_ n6_ n7_;clear hb hbox hg;obtain ⟨Ao18,co18,eo18⟩:=Kd.R_slice HO269.out;subst eo18;have hnb19:=NB273_265.out;have hnc19:=NB265_273.out;have hcz20_0 : w17.cell? ⟨gb273,0,none⟩ = some (.slice none 0 0):=(blk_cell BK273.out 0).trans rfl;have hcz20_1 : w17.cell? ⟨gb273,1,none⟩ = some (.int .i64 0):=(blk_cell BK273.out 1).trans rfl;have hcz20_2 : w17.cell? ⟨gb273,2,none⟩ = some (.int .i64 0):=(blk_cell BK273.out 2).trans rfl;have hfz20_0:=blk_frozen BK273.out 0;have hfz20_1:=blk_frozen BK273.out 1;have hfz20_2:=blk_frozen BK273.out 2))
   (try simp only [Act.put,setIfInBounds_toArray,set_cons_zero,set_cons_succ])
   go_cut [50] (fun v50 wc => ∃ (kq : Nat) (x50_14 : Bool),v50 = .bool x50_14∧Aside0 (limits.j1 kq a1 l2 l3 a4 x50_14 a0_0 a0_1 t267 t270 t271 = some r)∧Aside0 (kq ≤ kj7)∧Aside0 (Kd.R k62 62 wc w.heap.size (fun _ => True) (.slice Ao18 t267.length co18) t267)∧Aside0 (wc.heap[gb265]? = some (.cells #[.int .i64 a0_0,.int .i64 a0_1] 23 (0,0)))∧Aside0 (wc.heap[gb273]? = some (.cells #[(.slice Ao18 t267.length co18),.int .i64 t270,.int .i64 t271] 32 (0,0)))∧Aside0 (Below w.heap.size w wc))
   case first =>
    as_aux_lemma =>
    have H:=HC15.out
    clear HC15
    by_cases c21 : t272 = 0
    rotate_left
    ·rw [if_neg c21] at H
     have c21b0 : (t272 == 0) = false:=beq_eq_false_iff_ne.mpr c21
     have c21b1 : (t272 != 0) = true:=bne_iff_ne.mpr c21
     (first|rw [c21b0]|(simp only [i64_w,i32_w];rw [c21b0])|skip)
     have H':=Aside0.mk H
     clear H
     try go_wp2
     have n0_ : Aside0 (Kd.R k62 62 (((w17.setCell ⟨gb273,0,none⟩ (.slice Ao18 t267.length co18)).setCell ⟨gb273,1,none⟩ (.int .i64 t270)).setCell ⟨gb273,2,none⟩ (.int .i64 t271)) w.heap.size (fun _ => True) (.slice Ao18 t267.length co18) t267):=⟨by (with_reducible repeat (first|apply Kd.R_alloc|apply Kd.R_drewN|apply Kd.R_drew));exact Kd.R_mono (Kd.R_far (p:=⟨gb273,2,none⟩) (Kd.R_far (p:=⟨gb273,1,none⟩) (Kd.R_far (p:=⟨gb273,0,none⟩) (Kd.R_types HO269.out BK273.out (by decide)) (fun _ hk => hk.2) (.slice Ao18 t267.length co18)) (fun _ hk => hk.2) (.int .i64 t270)) (fun _ hk => hk.2) (.int .i64 t271)) (fun _ hk => trivial)⟩
     have n1_ : Aside0 ((((w17.setCell ⟨gb273,0,none⟩ (.slice Ao18 t267.length co18)).setCell ⟨gb273,1,none⟩ (.int .i64 t270)).setCell ⟨gb273,2,none⟩ (.int .i64 t271)).heap[gb265]? = some (.cells #[.int .i64 a0_0,.int .i64 a0_1] 23 (0,0))):=⟨by (with_reducible repeat (first|refine blk_drewN ?_ _|refine blk_drew ?_|refine blk_alloc ?_ _));refine blk_far ?_ NB265_273.out _;(with_reducible repeat (first|refine blk_drewN ?_ _|refine blk_drew ?_|refine blk_alloc ?_ _));refine blk_far ?_ NB265_273.out _;(with_reducible repeat (first|refine blk_drewN ?_ _|refine blk_drew ?_|refine blk_alloc ?_ _));refine blk_far ?_ NB265_273.out _;(with_reducible repeat (first|refine blk_drewN ?_ _|refine blk_drew ?_|refine blk_alloc ?_ _));exact BK265.out⟩
     have n2_ : Aside0 ((((w17.setCell ⟨gb273,0,none⟩ (.slice Ao18 t267.length co18)).setCell ⟨gb273,1,none⟩ (.int .i64 t270)).setCell ⟨gb273,2,none⟩ (.int .i64 t271)).heap[gb273]? = some (.cells #[.slice Ao18 t267.length co18,.int .i64 t270,.int .i64 t271] 32 (0,0))):=⟨by (with_reducible repeat (first|refine blk_drewN ?_ _|refine blk_drew ?_|refine blk_alloc ?_ _));refine blk_put (cs:=#[.slice Ao18 t267.length co18,.int .i64 t270,.int .i64 0]) ?_ 2 _ rfl;(with_reducible repeat (first|refine blk_drewN ?_ _|refine blk_drew ?_|refine blk_alloc ?_ _));refine blk_put (cs:=#[.slice Ao18 t267.length co18,.int .i64 0,.int .i64 0]) ?_ 1 _ rfl;(with_reducible repeat (first|refine blk_drewN ?_ _|refine blk_drew ?_|refine blk_alloc ?_ _));refine blk_put (cs:=#[.slice none 0 0,.int .i64 0,.int .i64 0]) ?_ 0 _ rfl;(with_reducible repeat (first|refine blk_drewN ?_ _|refine blk_drew ?_|refine blk_alloc ?_ _));exact BK273.out⟩
     have n3_ : Aside0 (Below w.heap.size w (((w17.setCell ⟨gb273,0,none⟩ (.slice Ao18 t267.length co18)).setCell ⟨gb273,1,none⟩ (.int .i64 t270)).setCell ⟨gb273,2,none⟩ (.int .i64 t271))):=⟨by repeat (first|(with_reducible first|exact HB.out|apply below_alloc|apply pw_below_drewN|apply below_drew1|refine below_set ?_ GE265.out|refine below_set ?_ GE273.out)|exact HB.out)⟩
     (try clear HO269)
     (try clear BK265)
     (try clear BK273)
     (try clear HB)
     generalize (((w17.setCell ⟨gb273,0,none⟩ (.slice Ao18 t267.length co18)).setCell ⟨gb273,1,none⟩ (.int .i64 t270)).setCell ⟨gb273,2,none⟩ (.int .i64 t271)) = w28 at n0_ n1_ n2_ n3_ ⊢
     have HO269:=n0_
     have BK265:=n1_
     have BK273:=n2_
     have HB:=n3_
     clear n0_ n1_ n2_ n3_
     have n0_:=Aside0.mk (Kd.R_drew HO269.out)
     have n1_:=Aside0.mk (blk_drew BK265.out)
     have n2_:=Aside0.mk (blk_drew BK273.out)
     have n3_:=Aside0.mk (below_drew1 HB.out)
     clear HO269
     clear BK265
     clear BK273
     clear HB
     have HO269:=n0_
     have BK265:=n1_
     have BK273:=n2_
     have HB:=n3_
     clear n0_ n1_ n2_ n3_
     refine start_ (n:=9) (S:=fun w' => True) (ds:=[]) #[false,false,false,false,false,false,false,false,false] (by kernel_rfl) rfl rfl trivial (fun hHeld => ?_);refine with_tabW limits.tab6 limits.bits6 (fun HT_ HW_ => ?_)
     generalize w28.drew = w29 at HO269 BK265 BK273 HB hHeld ⊢
     refine pure_ (i:=0) (N:=some 42) (v:=?_) (a':=?_) #[true,false,false,false,false,false,false,false,false] rfl rfl (any_of HT_.out (by kernel_rfl)) (fun _ _ _ h => h) (Or.inl ⟨by rfl,?_⟩) ?_ ?_
     rotate_left;(intro w';go_simp;with_reducible rfl);rotate_left;(simp only [Act.put,setIfInBounds_toArray,set_cons_zero,set_cons_succ,i64_w,i32_w];rfl)
     refine pure_ (i:=1) (N:=some 43) (v:=?_) (a':=?_) #[true,true,false,false,false,false,false,false,false] rfl rfl (any_of HT_.out (by kernel_rfl)) (fun _ _ _ h => h) (Or.inl ⟨by rfl,?_⟩) ?_ ?_
     rotate_left;(intro w';go_simp;with_reducible rfl);rotate_left;(simp only [Act.put,setIfInBounds_toArray,set_cons_zero,set_cons_succ,i64_w,i32_w];rfl)
     refine pure_ (i:=2) (N:=some 44) (v:=?_) (a':=?_) #[true,true,true,false,false,false,false,false,false] rfl rfl (any_of HT_.out (by kernel_rfl)) (fun _ _ _ h => h) (Or.inl ⟨by rfl,?_⟩) ?_ ?_
     rotate_left;(intro w';go_simp;with_reducible rfl);rotate_left;(simp only [Act.put,setIfInBounds_toArray,set_cons_zero,set_cons_succ,i64_w,i32_w];rfl)
     refine pure_ (i:=3) (N:=some 45) (v:=undef) (a':=?_) #[true,true,true,true,false,false,false,false,false] rfl rfl (any_of HT_.out (by kernel_rfl)) (fun _ _ _ h => h) (Or.inr ⟨by rfl,rfl⟩) ?_ ?_
     rotate_left
     ·simp only [Act.put,setIfInBounds_toArray,set_cons_zero,set_cons_succ,i64_w,i32_w]
      rfl
     refine pure_ (i:=4) (N:=some 46) (v:=undef) (a':=?_) #[true,true,true,true,true,false,false,false,false] rfl rfl (any_of HT_.out (by kernel_rfl)) (fun _ _ _ h => h) (Or.inr ⟨by rfl,rfl⟩) ?_ ?_
     rotate_left
     ·simp only [Act.put,setIfInBounds_toArray,set_cons_zero,set_cons_succ,i64_w,i32_w]
      rfl
     refine pure_ (i:=5) (N:=some 47) (v:=undef) (a':=?_) #[true,true,true,true,true,true,false,false,false] rfl rfl (any_of HT_.out (by kernel_rfl)) (fun _ _ _ h => h) (Or.inr ⟨by rfl,rfl⟩) ?_ ?_
     rotate_left
     ·simp only [Act.put,setIfInBounds_toArray,set_cons_zero,set_cons_succ,i64_w,i32_w]
      rfl
     refine pure_ (i:=6) (N:=some 48) (v:=undef) (a':=?_) #[true,true,true,true,true,true,true,false,false] rfl rfl (any_of HT_.out (by kernel_rfl)) (fun _ _ _ h => h) (Or.inr ⟨by rfl,rfl⟩) ?_ ?_
     rotate_left
     ·simp only [Act.put,setIfInBounds_toArray,set_cons_zero,set_cons_succ,i64_w,i32_w]
      rfl
     refine pure_ (i:=7) (N:=some 49) (v:=undef) (a':=?_) #[true,true,true,true,true,true,true,true,false] rfl rfl (any_of HT_.out (by kernel_rfl)) (fun _ _ _ h => h) (Or.inr ⟨by rfl,rfl⟩) ?_ ?_
     rotate_left
     ·simp only [Act.put,setIfInBounds_toArray,set_cons_zero,set_cons_succ,i64_w,i32_w]
      rfl
     refine pure_ (i:=8) (N:=some 50) (v:=?_) (a':=?_) #[true,true,true,true,true,true,true,true,true] rfl rfl (any_of HT_.out (by kernel_rfl)) (fun _ _ _ h => h) (Or.inl ⟨by rfl,?_⟩) ?_ ?_
     rotate_left;(intro w';go_simp;with_reducible rfl);rotate_left;(simp only [Act.put,setIfInBounds_toArray,set_cons_zero,set_cons_succ,i64_w,i32_w];rfl)
     refine done_ (done_of HT_.out (by kernel_rfl)) ?_
     try go_wp2
     go_meet
     case rel => exact ⟨_,(true),(by first|rfl|(simp;done)|(simp [*];done)),H',⟨by have:=HJ7.out;first|omega|exact Nat.le_refl _⟩,⟨by (with_reducible repeat (first|apply Kd.R_alloc|apply Kd.R_drewN|apply Kd.R_drew));exact HO269.out⟩,⟨by (with_reducible repeat (first|refine blk_drewN ?_ _|refine blk_drew ?_|refine blk_alloc ?_ _));exact BK265.out⟩,⟨by (with_reducible repeat (first|refine blk_drewN ?_ _|refine blk_drew ?_|refine blk_alloc ?_ _));exact BK273.out⟩,⟨by repeat (first|(with_reducible first|exact HB.out|apply below_alloc|apply pw_below_drewN|apply below_drew1|refine below_set ?_ GE265.out|refine below_set ?_ GE273.out)|exact HB.out)⟩⟩
    rw [if_pos c21] at H
    have c21b0 : (t272 == 0) = true:=beq_iff_eq.mpr c21
    have c21b1 : (t272 != 0) = false:=bne_eq_false_iff_eq.mpr c21
    clear c21
    (first|rw [c21b0]|(simp only [i64_w,i32_w];rw [c21b0])|skip)
    replace H:=Option.bind_eq_some_iff.mp H
    obtain ⟨⟨t274,t275⟩,A220,H⟩:=H
    replace H : ((leadlag_Check.f kj7 t274 t275 t267 t270 t271).bind fun t276 => (limits.j1 kj7 a1 l2 l3 a4 (t276 != 0) a0_0 a0_1 t267 t270 t271)) = some r:=H
    have A22:=Aside0.mk A220
    clear A220
    replace H:=Option.bind_eq_some_iff.mp H
    obtain ⟨t276,A230,H⟩:=H
    replace H : (limits.j1 kj7 a1 l2 l3 a4 (t276 != 0) a0_0 a0_1 t267 t270 t271) = some r:=H
    have A23:=Aside0.mk A230
    clear A230
    have H':=Aside0.mk H
    clear H
    try go_wp2
    have n0_ : Aside0 (Kd.R k62 62 (((w17.setCell ⟨gb273,0,none⟩ (.slice Ao18 t267.length co18)).setCell ⟨gb273,1,none⟩ (.int .i64 t270)).setCell ⟨gb273,2,none⟩ (.int .i64 t271)) w.heap.size (fun _ => True) (.slice Ao18 t267.length co18) t267):=⟨by (with_reducible repeat (first|apply Kd.R_alloc|apply Kd.R_drewN|apply Kd.R_drew));exact Kd.R_mono (Kd.R_far (p:=⟨gb273,2,none⟩) (Kd.R_far (p:=⟨gb273,1,none⟩) (Kd.R_far (p:=⟨gb273,0,none⟩) (Kd.R_types HO269.out BK273.out (by decide)) (fun _ hk => hk.2) (.slice Ao18 t267.length co18)) (fun _ hk => hk.2) (.int .i64 t270)) (fun _ hk => hk.2) (.int .i64 t271)) (fun _ hk => trivial)⟩
    have n1_ : Aside0 ((((w17.setCell ⟨gb273,0,none⟩ (.slice Ao18 t267.length co18)).setCell ⟨gb273,1,none⟩ (.int .i64 t270)).setCell ⟨gb273,2,none⟩ (.int .i64 t271)).heap[gb265]? = some (.cells #[.int .i64 a0_0,.int .i64 a0_1] 23 (0,0))):=⟨by (with_reducible repeat (first|refine blk_drewN ?_ _|refine blk_drew ?_|refine blk_alloc ?_ _));refine blk_far ?_ NB265_273.out _;(with_reducible repeat (first|refine blk_drewN ?_ _|refine blk_drew ?_|refine blk_alloc ?_ _));refine blk_far ?_ NB265_273.out _;(with_reducible repeat (first|refine blk_drewN ?_ _|refine blk_drew ?_|refine blk_alloc ?_ _));refine blk_far ?_ NB265_273.out _;(with_reducible repeat (first|refine blk_drewN ?_ _|refine blk_drew ?_|refine blk_alloc ?_ _));exact BK265.out⟩
    have n2_ : Aside0 ((((w17.setCell ⟨gb273,0,none⟩ (.slice Ao18 t267.length co18)).setCell ⟨gb273,1,none⟩ (.int .i64 t270)).setCell ⟨gb273,2,none⟩ (.int .i64 t271)).heap[gb273]? = some (.cells #[.slice Ao18 t267.length co18,.int .i64 t270,.int .i64 t271] 32 (0,0))):=⟨by (with_reducible repeat (first|refine blk_drewN ?_ _|refine blk_drew ?_|refine blk_alloc ?_ _));refine blk_put (cs:=#[.slice Ao18 t267.length co18,.int .i64 t270,.int .i64 0]) ?_ 2 _ rfl;(with_reducible repeat (first|refine blk_drewN ?_ _|refine blk_drew ?_|refine blk_alloc ?_ _));refine blk_put (cs:=#[.slice Ao18 t267.length co18,.int .i64 0,.int .i64 0]) ?_ 1 _ rfl;(with_reducible repeat (first|refine blk_drewN ?_ _|refine blk_drew ?_|refine blk_alloc ?_ _));refine blk_put (cs:=#[.slice none 0 0,.int .i64 0,.int .i64 0]) ?_ 0 _ rfl;(with_reducible repeat (first|refine blk_drewN ?_ _|refine blk_drew ?_|refine blk_alloc ?_ _));exact BK273.out⟩
    have n3_ : Aside0 (Below w.heap.size w (((w17.setCell ⟨gb273,0,none⟩ (.slice Ao18 t267.length co18)).setCell ⟨gb273,1,none⟩ (.int .i64 t270)).setCell ⟨gb273,2,none⟩ (.int .i64 t271))):=⟨by repeat (first|(with_reducible first|exact HB.out|apply below_alloc|apply pw_below_drewN|apply below_drew1|refine below_set ?_ GE265.out|refine below_set ?_ GE273.out)|exact HB.out)⟩
    (try clear HO269)
    (try clear BK265)
    (try clear BK273)
    (try clear HB)
    generalize (((w17.setCell ⟨gb273,0,none⟩ (.slice Ao18 t267.length co18)).setCell ⟨gb273,1,none⟩ (.int .i64 t270)).setCell ⟨gb273,2,none⟩ (.int .i64 t271)) = w24 at n0_ n1_ n2_ n3_ ⊢
    have HO269:=n0_
    have BK265:=n1_
    have BK273:=n2_
    have HB:=n3_
    clear n0_ n1_ n2_ n3_
    have n0_:=Aside0.mk (Kd.R_drew HO269.out)
    have n1_:=Aside0.mk (blk_drew BK265.out)
    have n2_:=Aside0.mk (blk_drew BK273.out)
    have n3_:=Aside0.mk (below_drew1 HB.out)
    clear HO269
    clear BK265
    clear BK273
    clear HB
    have HO269:=n0_
    have BK265:=n1_
    have BK273:=n2_
    have HB:=n3_
    clear n0_ n1_ n2_ n3_
    refine start_ (n:=9) (S:=fun w' => w'.cell? ⟨gb265,0,none⟩ = some (.int .i64 a0_0)∧w'.cell? ⟨gb265,1,none⟩ = some (.int .i64 a0_1)∧w'.cell? ⟨gb273,0,none⟩ = some (.slice Ao18 t267.length co18)∧w'.cell? ⟨gb273,1,none⟩ = some (.int .i64 t270)∧w'.cell? ⟨gb273,2,none⟩ = some (.int .i64 t271)) (ds:=[]) #[false,false,false,false,false,false,false,false,false] (by kernel_rfl) rfl rfl ⟨(blk_cell BK265.out 0).trans rfl,(blk_cell BK265.out 1).trans rfl,(blk_cell BK273.out 0).trans rfl,(blk_cell BK273.out 1).trans rfl,(blk_cell BK273.out 2).trans rfl⟩ (fun hHeld => ?_);refine with_tabW limits.tab6 limits.bits6 (fun HT_ HW_ => ?_)
    generalize w24.drew = w25 at HO269 BK265 BK273 HB hHeld ⊢
    refine pure_ (i:=0) (N:=some 42) (v:=?_) (a':=?_) #[true,false,false,false,false,false,false,false,false] rfl rfl (any_of HT_.out (by kernel_rfl)) (fun _ _ _ h => h) (Or.inl ⟨by rfl,?_⟩) ?_ ?_
    rotate_left;(intro w';go_simp;with_reducible rfl);rotate_left;(simp only [Act.put,setIfInBounds_toArray,set_cons_zero,set_cons_succ,i64_w,i32_w];rfl)
    refine pure_ (i:=1) (N:=some 43) (v:=?_) (a':=?_) #[true,true,false,false,false,false,false,false,false] rfl rfl (any_of HT_.out (by kernel_rfl)) (fun _ _ _ h => h) (Or.inl ⟨by rfl,?_⟩) ?_ ?_
    rotate_left;(intro w';go_simp;with_reducible rfl);rotate_left;(simp only [Act.put,setIfInBounds_toArray,set_cons_zero,set_cons_succ,i64_w,i32_w];rfl)
    refine pure_ (i:=2) (N:=some 44) (v:=?_) (a':=?_) #[true,true,true,false,false,false,false,false,false] rfl rfl (any_of HT_.out (by kernel_rfl)) (fun _ _ _ h => h) (Or.inl ⟨by rfl,?_⟩) ?_ ?_
    rotate_left;(intro w';go_simp;with_reducible rfl);rotate_left;(simp only [Act.put,setIfInBounds_toArray,set_cons_zero,set_cons_succ,i64_w,i32_w];rfl)
    refine take_ (i:=3) (N:=some 45) (v:=?_) (a':=?_) #[true,true,true,true,false,false,false,false,false] rfl rfl (take_ofW HT_.out HW_.out (by kernel_rfl)) (fun _ _ _ h => h) (Or.inl ⟨by rfl,?_⟩) hHeld ?_ ?_
    rotate_left;(rintro w' ⟨s0,s1,s2,s3,s4⟩;go_simp;with_reducible rfl);rotate_left;(simp only [Act.put,setIfInBounds_toArray,set_cons_zero,set_cons_succ,i64_w,i32_w];rfl)
    refine take_ (i:=5) (N:=some 47) (v:=?_) (a':=?_) #[true,true,true,true,false,true,false,false,false] rfl rfl (take_ofW HT_.out HW_.out (by kernel_rfl)) (fun _ _ _ h => h) (Or.inl ⟨by rfl,?_⟩) hHeld ?_ ?_
    rotate_left;(rintro w' ⟨s0,s1,s2,s3,s4⟩;go_simp;with_reducible rfl);rotate_left;(simp only [Act.put,setIfInBounds_toArray,set_cons_zero,set_cons_succ,i64_w,i32_w];rfl)
    refine one_ (i:=4) (N:=some 46) #[true,true,true,true,true,true,false,false,false] rfl rfl (one_of HT_.out (by kernel_rfl)) (by decide) (fun K hK => ?_)
    refine goes_ Try.func15 (by kernel_rfl) rfl #[.agg #[.int .i64 a0_0,.int .i64 a0_1]] (by rfl) rfl rfl (by (try simp only [List.map_toArray,List.map_cons,List.map_nil]);first|done|rfl|(simp only [List.length_drop,List.length_take];rfl)) ?_
    with_reducible refine (plenumlaw55_rule.calls a0_0 a0_1 t274 t275 _ A22.out).mono ?_
    rintro e w26 ⟨rfl,hb⟩
    refine ⟨_,rfl,?_⟩
    have n0_:=Aside0.mk (Kd.R_below (by (with_reducible repeat (first|apply Kd.R_alloc|apply Kd.R_drewN|apply Kd.R_drew));exact HO269.out) hb)
    have n1_:=Aside0.mk (blk_below (g:=gb265) (o:=.cells #[.int .i64 a0_0,.int .i64 a0_1] 23 (0,0)) (by (with_reducible repeat (first|refine blk_drewN ?_ _|refine blk_drew ?_|refine blk_alloc ?_ _));exact BK265.out) hb)
    have n2_:=Aside0.mk (blk_below (g:=gb273) (o:=.cells #[.slice Ao18 t267.length co18,.int .i64 t270,.int .i64 t271] 32 (0,0)) (by (with_reducible repeat (first|refine blk_drewN ?_ _|refine blk_drew ?_|refine blk_alloc ?_ _));exact BK273.out) hb)
    have n3_:=Aside0.mk (below_step (by repeat (first|(with_reducible first|exact HB.out|apply below_alloc|apply pw_below_drewN|apply below_drew1|refine below_set ?_ GE265.out|refine below_set ?_ GE273.out)|exact HB.out)) hb)
    clear HO269
    clear BK265
    clear BK273
    clear HB
    have HO269:=n0_
    have BK265:=n1_
    have BK273:=n2_
    have HB:=n3_
    clear n0_ n1_ n2_ n3_
    (try clear hb)
    (try clear hb2)
    (try clear hk)
    (try clear hi)
    refine hK.out _ _ ⟨(blk_cell BK265.out 0).trans rfl,(blk_cell BK265.out 1).trans rfl,(blk_cell BK273.out 0).trans rfl,(blk_cell BK273.out 1).trans rfl,(blk_cell BK273.out 2).trans rfl⟩ (fun hHeld => ?_)
    clear hK K
    refine norm_ (a':=?_) ?_ ?_
    rotate_left
    ·show Act.put _ (some 46) _ = _
     simp only [Act.put,setIfInBounds_toArray,set_cons_zero,set_cons_succ,i64_w,i32_w]
     rfl
    refine one_ (i:=6) (N:=some 48) #[true,true,true,true,true,true,true,false,false] rfl rfl (one_of HT_.out (by kernel_rfl)) (by decide) (fun K hK => ?_)
    refine goes_ Try.func14 (by kernel_rfl) rfl #[.agg #[.int .i64 t274,.int .i64 t275],.agg #[.slice Ao18 t267.length co18,.int .i64 t270,.int .i64 t271]] (by rfl) rfl rfl (by (try simp only [List.map_toArray,List.map_cons,List.map_nil]);first|done|rfl|(simp only [List.length_drop,List.length_take];rfl)) ?_
    with_reducible refine (leadlag_Check.calls kj7 t274 t275 _ _ t267 t270 t271 t276 _ ?side1 ?side2 A23.out).mono ?_
    (case side1 => repeat (first|exact (Kd.R_reads' HO269.out).2.2|(with_reducible refine Kd.C_alloc ?_ _)|(with_reducible refine Kd.C_drewN ?_ _)|(with_reducible refine Kd.C_drew ?_)))
    (case side2 => exact (Kd.R_reads' HO269.out).2.1)
    rintro e w27 ⟨rfl,hb⟩
    refine ⟨_,rfl,?_⟩
    have n0_:=Aside0.mk (Kd.R_below (by (with_reducible repeat (first|apply Kd.R_alloc|apply Kd.R_drewN|apply Kd.R_drew));exact HO269.out) hb)
    have n1_:=Aside0.mk (blk_below (g:=gb265) (o:=.cells #[.int .i64 a0_0,.int .i64 a0_1] 23 (0,0)) (by (with_reducible repeat (first|refine blk_drewN ?_ _|refine blk_drew ?_|refine blk_alloc ?_ _));exact BK265.out) hb)
    have n2_:=Aside0.mk (blk_below (g:=gb273) (o:=.cells #[.slice Ao18 t267.length co18,.int .i64 t270,.int .i64 t271] 32 (0,0)) (by (with_reducible repeat (first|refine blk_drewN ?_ _|refine blk_drew ?_|refine blk_alloc ?_ _));exact BK273.out) hb)
    have n3_:=Aside0.mk (below_step (by repeat (first|(with_reducible first|exact HB.out|apply below_alloc|apply pw_below_drewN|apply below_drew1|refine below_set ?_ GE265.out|refine below_set ?_ GE273.out)|exact HB.out)) hb)
    clear HO269
    clear BK265
    clear BK273
    clear HB
    have HO269:=n0_
    have BK265:=n1_
    have BK273:=n2_
    have HB:=n3_
    clear n0_ n1_ n2_ n3_
    (try clear hb)
    (try clear hb2)
    (try clear hk)
    (try clear hi)
    refine hK.out _ _ ⟨(blk_cell BK265.out 0).trans rfl,(blk_cell BK265.out 1).trans rfl,(blk_cell BK273.out 0).trans rfl,(blk_cell BK273.out 1).trans rfl,(blk_cell BK273.out 2).trans rfl⟩ (fun hHeld => ?_)
    clear hK K
    refine norm_ (a':=?_) ?_ ?_
    rotate_left
    ·show Act.put _ (some 48) _ = _
     simp only [Act.put,setIfInBounds_toArray,set_cons_zero,set_cons_succ,i64_w,i32_w]
     rfl
    refine pure_ (i:=7) (N:=some 49) (v:=?_) (a':=?_) #[true,true,true,true,true,true,true,true,false] rfl rfl (any_of HT_.out (by kernel_rfl)) (fun _ _ _ h => h) (Or.inl ⟨by rfl,?_⟩) ?_ ?_
    rotate_left;(intro w';go_simp;with_reducible rfl);rotate_left;(simp only [Act.put,setIfInBounds_toArray,set_cons_zero,set_cons_succ,i64_w,i32_w];rfl)
    refine pure_ (i:=8) (N:=some 50) (v:=?_) (a':=?_) #[true,true,true,true,true,true,true,true,true] rfl rfl (any_of HT_.out (by kernel_rfl)) (fun _ _ _ h => h) (Or.inl ⟨by rfl,?_⟩) ?_ ?_
    rotate_left;(intro w';go_simp;with_reducible rfl);rotate_left;(simp only [Act.put,setIfInBounds_toArray,set_cons_zero,set_cons_succ,i64_w,i32_w];rfl)
    refine done_ (done_of HT_.out (by kernel_rfl)) ?_
    try go_wp2
    go_meet
    case rel => exact ⟨_,((t276 != 0)),(by first|rfl|(simp;done)|(simp [*];done)),H',⟨by have:=HJ7.out;first|omega|exact Nat.le_refl _⟩,⟨by (with_reducible repeat (first|apply Kd.R_alloc|apply Kd.R_drewN|apply Kd.R_drew));exact HO269.out⟩,⟨by (with_reducible repeat (first|refine blk_drewN ?_ _|refine blk_drew ?_|refine blk_alloc ?_ _));exact BK265.out⟩,⟨by (with_reducible repeat (first|refine blk_drewN ?_ _|refine blk_drew ?_|refine blk_alloc ?_ _));exact BK273.out⟩,⟨by repeat (first|(with_reducible first|exact HB.out|apply below_alloc|apply pw_below_drewN|apply below_drew1|refine below_set ?_ GE265.out|refine below_set ?_ GE273.out)|exact HB.out)⟩⟩
   case rest =>
    as_aux_lemma =>
    clear HC15
    (try clear c1);(try clear c2);(try clear p2);(try clear c3);(try clear c7);(try clear c8);(try clear c10);(try clear c11);(try clear c11b0);(try clear c11b1);(try clear c12);(try clear c12b0);(try clear c12b1);(try clear c12b2);(try clear c13);(try clear c14);(try clear c15);(try clear c19);(try clear c21);(try clear c21b0);(try clear c21b1);(try clear hcz20_0);(try clear hcz20_1);(try clear hcz20_2);(try clear hfz20_0);(try clear hfz20_1);(try clear hfz20_2);(try clear p2)
    obtain ⟨kq,x50_14,rfl,HA,HJ14,HO_274000,BK265,BK273,HB⟩:=hcut
    cases kq with
    | zero => exact absurd HA.out (by simp [limits.j1])
    | succ kj14 =>
     have H:=HA.out
     clear HA
     simp only [limits.j1] at H
     by_cases c30 : x50_14 = true
     ·subst c30
      have H1 : (some true) = some r:=by rw [if_pos rfl] at H;exact H
      clear H
      have H:=H1
      clear H1
      obtain rfl:=Option.some.inj H
      go_wp2
      go_ret
      exact ⟨by first|rfl|(simp [errW_none,errW_some] <;> rfl)|(simp [*,errW_none,errW_some] <;> rfl),by repeat (first|(with_reducible first|exact HB.out|apply below_alloc|apply pw_below_drewN|apply below_drew1|refine below_set ?_ GE265.out|refine below_set ?_ GE273.out)|exact HB.out)⟩
     replace c30:=Bool.eq_false_iff.mpr c30
     subst c30
     have H1 : (limits.l0 kj14 a1 l2 l3 a4 (-1) 0 a0_0 a0_1 t267 t270 t271) = some r:=by rw [if_neg (show ¬ (false = true) by decide)] at H;exact H
     clear H
     have H:=H1
     clear H1
     have H':=Aside0.mk H
     clear H
     go_wp2
     go_loopg [13,14] kj14 (fun kq v13 v14 w' => ∃ (x13_3 : Int) (x14_3 : Int) (x274000_3 : List (S62)) (x274001_3 : Int) (x274002_3 : Int) (u274000 : Value),v13 = .int .i64 x13_3∧v14 = .int .i64 x14_3∧Aside0 (limits.l0 kq a1 l2 l3 a4 x13_3 x14_3 a0_0 a0_1 x274000_3 x274001_3 x274002_3 = some r)∧Aside0 (kq ≤ kj14)∧Aside0 (Kd.R k62 62 w' w.heap.size (fun _ => True) u274000 x274000_3)∧Aside0 (w'.heap[gb265]? = some (.cells #[.int .i64 a0_0,.int .i64 a0_1] 23 (0,0)))∧Aside0 (w'.heap[gb273]? = some (.cells #[u274000,.int .i64 x274001_3,.int .i64 x274002_3] 32 (0,0)))∧Aside0 (Below w.heap.size w w'))
     case atStart => exact ⟨((-1)),(0),(t267),(t270),(t271),(.slice Ao18 t267.length co18),(by first|rfl|(simp;done)|(simp [*];done)),(by first|rfl|(simp;done)|(simp [*];done)),H',⟨Nat.le_refl _⟩,⟨by (with_reducible repeat (first|apply Kd.R_alloc|apply Kd.R_drewN|apply Kd.R_drew));exact HO_274000.out⟩,⟨by (with_reducible repeat (first|refine blk_drewN ?_ _|refine blk_drew ?_|refine blk_alloc ?_ _));exact BK265.out⟩,⟨by (with_reducible repeat (first|refine blk_drewN ?_ _|refine blk_drew ?_|refine blk_alloc ?_ _));exact BK273.out⟩,⟨by repeat (first|(with_reducible first|exact HB.out|apply below_alloc|apply pw_below_drewN|apply below_drew1|refine below_set ?_ GE265.out|refine below_set ?_ GE273.out)|exact HB.out)⟩⟩
     case round =>
      as_aux_lemma =>
      clear H'
      (try clear c1);(try clear c2);(try clear p2);(try clear c3);(try clear c7);(try clear c8);(try clear c10);(try clear c11);(try clear c11b0);(try clear c11b1);(try clear c12);(try clear c12b0);(try clear c12b1);(try clear c12b2);(try clear c13);(try clear c14);(try clear c15);(try clear c19);(try clear c21);(try clear c21b0);(try clear c21b1);(try clear c30);(try clear hcz20_0);(try clear hcz20_1);(try clear hcz20_2);(try clear hfz20_0);(try clear hfz20_1);(try clear hfz20_2);(try clear p2)
      obtain ⟨x13_3,x14_3,x274000_3,x274001_3,x274002_3,u274000,rfl,rfl,HA,HK3,HO_274000,BK265,BK273,HB⟩:=hrel
      cases gk with
      | zero => exact absurd HA.out (by simp [limits.l0])
      | succ k3 =>
       have H:=HA.out
       clear HA
       simp only [limits.l0] at H
       by_cases c31 : x14_3 < (l2.length : Int)
       rotate_left
       ·rw [if_neg c31] at H
        have c31b0 : decide (x14_3 < (l2.length : Int)) = false:=decide_eq_false c31
        clear c31
        obtain rfl:=Option.some.inj H
        go_wp2
        go_ret
        exact ⟨by first|rfl|(simp [errW_none,errW_some] <;> rfl)|(simp [*,errW_none,errW_some] <;> rfl),by repeat (first|(with_reducible first|exact HB.out|apply below_alloc|apply pw_below_drewN|apply below_drew1|refine below_set ?_ GE265.out|refine below_set ?_ GE273.out)|exact HB.out)⟩
       rw [if_pos c31] at H
       have c31b0 : decide (x14_3 < (l2.length : Int)) = true:=decide_eq_true c31
       clear c31
       replace H:=Option.bind_eq_some_iff.mp H
       obtain ⟨t277,A320,H⟩:=H
       replace H : ((plenumlaw55_rule.f a0_0 a0_1).bind fun bt280 => (if 0 ≤ x14_3 then (if x14_3 < (l3.length : Int) then ((leadlag_Step.f k3 bt280.1 bt280.2 x274000_3 x274001_3 x274002_3 (rd l2 x14_3) (rd_L6 l3 x14_3) (wrap64 (a4 + x14_3))).bind fun bt284 => (if bt284.2.2.2 = 0 then (limits.l1 k3 a1 l2 l3 a4 x13_3 x14_3 (t277.length : Int) 0 0 a0_0 a0_1 x274000_3 x274001_3 x274002_3 bt284.1 bt284.2.1 bt284.2.2.1) else (if bt284.2.2.2 = 1 then (some (((rd_L6 l3 x14_3).length : Int) != a1)) else (none)))) else (none)) else (none))) = some r:=H
       have A32:=Aside0.mk A320
       clear A320
       replace H:=Option.bind_eq_some_iff.mp H
       obtain ⟨⟨t280,t281⟩,A330,H⟩:=H
       replace H : (if 0 ≤ x14_3 then (if x14_3 < (l3.length : Int) then ((leadlag_Step.f k3 t280 t281 x274000_3 x274001_3 x274002_3 (rd l2 x14_3) (rd_L6 l3 x14_3) (wrap64 (a4 + x14_3))).bind fun bt284 => (if bt284.2.2.2 = 0 then (limits.l1 k3 a1 l2 l3 a4 x13_3 x14_3 (t277.length : Int) 0 0 a0_0 a0_1 x274000_3 x274001_3 x274002_3 bt284.1 bt284.2.1 bt284.2.2.1) else (if bt284.2.2.2 = 1 then (some (((rd_L6 l3 x14_3).length : Int) != a1)) else (none)))) else (none)) else (none)) = some r:=H
       have A33:=Aside0.mk A330
       clear A330
       by_cases c34 : 0 ≤ x14_3
       rotate_left
       ·rw [if_neg c34] at H
        exact absurd H (by simp)
       rw [if_pos c34] at H
       have c34b0 : decide (0 ≤ x14_3) = true:=decide_eq_true c34
       clear c34
       by_cases c35 : x14_3 < (l3.length : Int)
       rotate_left
       ·rw [if_neg c35] at H
        exact absurd H (by simp)
       rw [if_pos c35] at H
       have c35b0 : decide (x14_3 < (l3.length : Int)) = true:=decide_eq_true c35
       clear c35
       replace H:=Option.bind_eq_some_iff.mp H
       obtain ⟨⟨t284,t287,t288,t289⟩,A360,H⟩:=H
       replace H : (if t289 = 0 then (limits.l1 k3 a1 l2 l3 a4 x13_3 x14_3 (t277.length : Int) 0 0 a0_0 a0_1 x274000_3 x274001_3 x274002_3 t284 t287 t288) else (if t289 = 1 then (some (((rd_L6 l3 x14_3).length : Int) != a1)) else (none))) = some r:=H
       have A36:=Aside0.mk A360
       clear A360
       by_cases c37 : t289 = 0
       rotate_left
       ·rw [if_neg c37] at H
        have c37b0 : (t289 == 0) = false:=beq_eq_false_iff_ne.mpr c37
        have c37b1 : (t289 != 0) = true:=bne_iff_ne.mpr c37
        by_cases c113 : t289 = 1
        rotate_left
        ·rw [if_neg c113] at H
         exact absurd H (by simp)
        rw [if_pos c113] at H
        have c113b0 : (t289 == 1) = true:=beq_iff_eq.mpr c113
        have c113b1 : (t289 != 1) = false:=bne_eq_false_iff_eq.mpr c113
        clear c113
        obtain rfl:=Option.some.inj H
        have hnb114:=NB273_265.out
        have hnc114:=NB265_273.out
        have hcz115_0 : wr.cell? ⟨gb273,0,none⟩ = some (u274000):=(blk_cell BK273.out 0).trans rfl
        have hcz115_1 : wr.cell? ⟨gb273,1,none⟩ = some (.int .i64 x274001_3):=(blk_cell BK273.out 1).trans rfl
        have hcz115_2 : wr.cell? ⟨gb273,2,none⟩ = some (.int .i64 x274002_3):=(blk_cell BK273.out 2).trans rfl
        have hfz115_0:=blk_frozen BK273.out 0
        have hfz115_1:=blk_frozen BK273.out 1
        have hfz115_2:=blk_frozen BK273.out 2
        obtain ⟨Ao116,co116,eo116⟩:=Kd.R_slice HO_274000.out
        subst eo116
        try go_wp2_with (first|((with_reducible refine gate_callee (f:=22) rfl ?_);refine goesL_ (some 58) rfl rfl Try.func22 (by kernel_rfl) rfl #[.agg #[.slice Ao116 x274000_3.length co116,.int .i64 x274001_3,.int .i64 x274002_3]] rfl (by (try simp only [List.map_toArray,List.map_cons,List.map_nil]);first|done|rfl|(simp only [List.length_drop,List.length_take];rfl)) ?_;(with_reducible refine (leadlag_Running.calls k3 _ _ x274000_3 x274001_3 x274002_3 t277 _ ?side1 ?side2 A32.out).mono ?_);(case side1 => repeat (first|exact (Kd.R_reads' HO_274000.out).2.2|(with_reducible refine Kd.C_alloc ?_ _)|(with_reducible refine Kd.C_drewN ?_ _)|(with_reducible refine Kd.C_drew ?_)));(case side2 => exact (Kd.R_reads' HO_274000.out).2.1);rintro e w117 ⟨v278,rfl,ho0,hb⟩;refine ⟨_,rfl,?_⟩;have n0_:=Aside0.mk (Kd.R_below (by (with_reducible repeat (first|apply Kd.R_alloc|apply Kd.R_drewN|apply Kd.R_drew));exact HO_274000.out) hb);have n1_:=Aside0.mk (Kd.R_lower ho0 (below_size (by repeat (first|(with_reducible first|exact HB.out|apply below_alloc|apply pw_below_drewN|apply below_drew1|refine below_set ?_ GE265.out|refine below_set ?_ GE273.out)|exact HB.out))));have n2_:=Aside0.mk (blk_below (g:=gb265) (o:=.cells #[.int .i64 a0_0,.int .i64 a0_1] 23 (0,0)) (by (with_reducible repeat (first|refine blk_drewN ?_ _|refine blk_drew ?_|refine blk_alloc ?_ _));exact BK265.out) hb);have n3_:=Aside0.mk (blk_below (g:=gb273) (o:=.cells #[.slice Ao116 x274000_3.length co116,.int .i64 x274001_3,.int .i64 x274002_3] 32 (0,0)) (by (with_reducible repeat (first|refine blk_drewN ?_ _|refine blk_drew ?_|refine blk_alloc ?_ _));exact BK273.out) hb);have n4_:=Aside0.mk (below_step (by repeat (first|(with_reducible first|exact HB.out|apply below_alloc|apply pw_below_drewN|apply below_drew1|refine below_set ?_ GE265.out|refine below_set ?_ GE273.out)|exact HB.out)) hb);clear HO_274000;clear BK265;clear BK273;clear HB;have HO_274000:=n0_;have HO279:=n1_;have BK265:=n2_;have BK273:=n3_;have HB:=n4_;clear n0_ n1_ n2_ n3_ n4_;(try clear hb);(try clear hb2);(try clear hk);(try clear hi);(try clear ho0);obtain ⟨Ao118,co118,eo118⟩:=Kd.R_slice HO279.out;subst eo118))
        have n0_:=Aside0.mk (Kd.R_drew HO_274000.out)
        have n1_:=Aside0.mk (Kd.R_drew HO279.out)
        have n2_:=Aside0.mk (blk_drew BK265.out)
        have n3_:=Aside0.mk (blk_drew BK273.out)
        have n4_:=Aside0.mk (below_drew1 HB.out)
        clear HO_274000
        clear HO279
        clear BK265
        clear BK273
        clear HB
        have HO_274000:=n0_
        have HO279:=n1_
        have BK265:=n2_
        have BK273:=n3_
        have HB:=n4_
        clear n0_ n1_ n2_ n3_ n4_
        have p282 : 0 ≤ (x14_3 : Int):=of_decide_eq_true (by first|(with_reducible assumption)|assumption)
        have q282 : x14_3 < (l2.length : Int):=of_decide_eq_true (by first|(with_reducible assumption)|assumption)
        obtain ⟨ad282,e282,hx282_0⟩:=Kd.at_int HR2.out x14_3 p282 q282
        have hw282_0:=hx282_0
        cases e282
        replace hx282_0:=(HB.out.cell (World.block_lt_of_cell? w _ hx282_0)).trans hx282_0
        replace p282:=eq_true p282
        replace q282:=eq_true q282
        have p283 : 0 ≤ (x14_3 : Int):=of_decide_eq_true (by first|(with_reducible assumption)|assumption)
        have q283 : x14_3 < (l3.length : Int):=of_decide_eq_true (by first|(with_reducible assumption)|assumption)
        obtain ⟨ad283,A283_0,c283_0,e283,hx283_0,hl283_0,hi283_0⟩:=at_L6 HR3.out x14_3 p283 q283
        have hw283_0:=hx283_0
        cases e283
        replace hx283_0:=(HB.out.cell (World.block_lt_of_cell? w _ hx283_0)).trans hx283_0
        have HR283_0:=Aside0.mk hi283_0
        have HC283_0:=Aside0.mk hl283_0
        clear hi283_0 hl283_0
        replace p283:=eq_true p283
        replace q283:=eq_true q283
        refine start_ (n:=21) (S:=fun w' => w'.cell? ⟨gb265,0,none⟩ = some (.int .i64 a0_0)∧w'.cell? ⟨gb265,1,none⟩ = some (.int .i64 a0_1)∧w'.cell? ⟨gb273,0,none⟩ = some (.slice Ao116 x274000_3.length co116)∧w'.cell? ⟨gb273,1,none⟩ = some (.int .i64 x274001_3)∧w'.cell? ⟨gb273,2,none⟩ = some (.int .i64 x274002_3)∧w'.cell? (ad282.add (x14_3).toNat) = some (.int .i64 (rd l2 x14_3))∧w'.cell? (ad283.add (x14_3).toNat) = some (.slice A283_0 (rd_L6 l3 x14_3).length c283_0)) (ds:=[]) #[false,false,false,false,false,false,false,false,false,false,false,false,false,false,false,false,false,false,false,false,false] (by kernel_rfl) rfl rfl ⟨(blk_cell BK265.out 0).trans rfl,(blk_cell BK265.out 1).trans rfl,(blk_cell BK273.out 0).trans rfl,(blk_cell BK273.out 1).trans rfl,(blk_cell BK273.out 2).trans rfl,((HB.out.cell (World.block_lt_of_cell? w _ hw282_0)).trans hw282_0),((HB.out.cell (World.block_lt_of_cell? w _ hw283_0)).trans hw283_0)⟩ (fun hHeld => ?_);refine with_tabW limits.tab13 limits.bits13 (fun HT_ HW_ => ?_)
        generalize w117.drew = w119 at HO_274000 HO279 BK265 BK273 HB HR283_0 hx282_0 hx283_0 hHeld ⊢
        refine pure_ (i:=3) (N:=some 64) (v:=?_) (a':=?_) #[false,false,false,true,false,false,false,false,false,false,false,false,false,false,false,false,false,false,false,false,false] rfl rfl (any_of HT_.out (by kernel_rfl)) (fun _ _ _ h => h) (Or.inl ⟨by rfl,?_⟩) ?_ ?_
        rotate_left;(intro w';go_simp;with_reducible rfl);rotate_left;(simp only [Act.put,setIfInBounds_toArray,set_cons_zero,set_cons_succ,i64_w,i32_w];rfl)
        refine pure_ (i:=4) (N:=some 65) (v:=?_) (a':=?_) #[false,false,false,true,true,false,false,false,false,false,false,false,false,false,false,false,false,false,false,false,false] rfl rfl (any_of HT_.out (by kernel_rfl)) (fun _ _ _ h => h) (Or.inl ⟨by rfl,?_⟩) ?_ ?_
        rotate_left;(intro w';go_simp;with_reducible rfl);rotate_left;(simp only [Act.put,setIfInBounds_toArray,set_cons_zero,set_cons_succ,i64_w,i32_w];rfl)
        refine pure_ (i:=5) (N:=some 66) (v:=?_) (a':=?_) #[false,false,false,true,true,true,false,false,false,false,false,false,false,false,false,false,false,false,false,false,false] rfl rfl (any_of HT_.out (by kernel_rfl)) (fun _ _ _ h => h) (Or.inl ⟨by rfl,?_⟩) ?_ ?_
        rotate_left;(intro w';go_simp;with_reducible rfl);rotate_left;(simp only [Act.put,setIfInBounds_toArray,set_cons_zero,set_cons_succ,i64_w,i32_w];rfl)
        refine pure_ (i:=7) (N:=some 68) (v:=?_) (a':=?_) #[false,false,false,true,true,true,false,true,false,false,false,false,false,false,false,false,false,false,false,false,false] rfl rfl (any_of HT_.out (by kernel_rfl)) (fun _ _ _ h => h) (Or.inl ⟨by rfl,?_⟩) ?_ ?_
        rotate_left;(intro w';go_simp;with_reducible rfl);rotate_left;(simp only [Act.put,setIfInBounds_toArray,set_cons_zero,set_cons_succ,i64_w,i32_w];rfl)
        refine pure_ (i:=8) (N:=some 69) (v:=?_) (a':=?_) #[false,false,false,true,true,true,false,true,true,false,false,false,false,false,false,false,false,false,false,false,false] rfl rfl (any_of HT_.out (by kernel_rfl)) (fun _ _ _ h => h) (Or.inl ⟨by rfl,?_⟩) ?_ ?_
        rotate_left;(intro w';go_simp;with_reducible rfl);rotate_left;(simp only [Act.put,setIfInBounds_toArray,set_cons_zero,set_cons_succ,i64_w,i32_w];rfl)
        refine pure_ (i:=9) (N:=some 70) (v:=?_) (a':=?_) #[false,false,false,true,true,true,false,true,true,true,false,false,false,false,false,false,false,false,false,false,false] rfl rfl (any_of HT_.out (by kernel_rfl)) (fun _ _ _ h => h) (Or.inl ⟨by rfl,?_⟩) ?_ ?_
        rotate_left;(intro w';go_simp;with_reducible rfl);rotate_left;(simp only [Act.put,setIfInBounds_toArray,set_cons_zero,set_cons_succ,i64_w,i32_w];rfl)
        refine pure_ (i:=11) (N:=some 72) (v:=?_) (a':=?_) #[false,false,false,true,true,true,false,true,true,true,false,true,false,false,false,false,false,false,false,false,false] rfl rfl (any_of HT_.out (by kernel_rfl)) (fun _ _ _ h => h) (Or.inl ⟨by rfl,?_⟩) ?_ ?_
        rotate_left;(intro w';go_simp;with_reducible rfl);rotate_left;(simp only [Act.put,setIfInBounds_toArray,set_cons_zero,set_cons_succ,i64_w,i32_w];rfl)
        refine pure_ (i:=12) (N:=some 73) (v:=?_) (a':=?_) #[false,false,false,true,true,true,false,true,true,true,false,true,true,false,false,false,false,false,false,false,false] rfl rfl (any_of HT_.out (by kernel_rfl)) (fun _ _ _ h => h) (Or.inl ⟨by rfl,?_⟩) ?_ ?_
        rotate_left;(intro w';go_simp;with_reducible rfl);rotate_left;(simp only [Act.put,setIfInBounds_toArray,set_cons_zero,set_cons_succ,i64_w,i32_w];rfl)
        refine pure_ (i:=13) (N:=some 74) (v:=?_) (a':=?_) #[false,false,false,true,true,true,false,true,true,true,false,true,true,true,false,false,false,false,false,false,false] rfl rfl (any_of HT_.out (by kernel_rfl)) (fun _ _ _ h => h) (Or.inl ⟨by rfl,?_⟩) ?_ ?_
        rotate_left;(intro w';go_simp;with_reducible rfl);rotate_left;(simp only [Act.put,setIfInBounds_toArray,set_cons_zero,set_cons_succ,i64_w,i32_w];rfl)
        refine take_ (i:=0) (N:=some 61) (v:=?_) (a':=?_) #[true,false,false,true,true,true,false,true,true,true,false,true,true,true,false,false,false,false,false,false,false] rfl rfl (take_ofW HT_.out HW_.out (by kernel_rfl)) (fun _ _ _ h => h) (Or.inl ⟨by rfl,?_⟩) hHeld ?_ ?_
        rotate_left;(rintro w' ⟨s0,s1,s2,s3,s4,s5,s6⟩;go_simp;with_reducible rfl);rotate_left;(simp only [Act.put,setIfInBounds_toArray,set_cons_zero,set_cons_succ,i64_w,i32_w];rfl)
        refine take_ (i:=2) (N:=some 63) (v:=?_) (a':=?_) #[true,false,true,true,true,true,false,true,true,true,false,true,true,true,false,false,false,false,false,false,false] rfl rfl (take_ofW HT_.out HW_.out (by kernel_rfl)) (fun _ _ _ h => h) (Or.inl ⟨by rfl,?_⟩) hHeld ?_ ?_
        rotate_left;(rintro w' ⟨s0,s1,s2,s3,s4,s5,s6⟩;go_simp;with_reducible rfl);rotate_left;(simp only [Act.put,setIfInBounds_toArray,set_cons_zero,set_cons_succ,i64_w,i32_w];rfl)
        refine take_ (i:=6) (N:=some 67) (v:=?_) (a':=?_) #[true,false,true,true,true,true,true,true,true,true,false,true,true,true,false,false,false,false,false,false,false] rfl rfl (take_ofW HT_.out HW_.out (by kernel_rfl)) (fun _ _ _ h => h) (Or.inl ⟨by rfl,?_⟩) hHeld ?_ ?_
        rotate_left;(rintro w' ⟨s0,s1,s2,s3,s4,s5,s6⟩;go_simp;with_reducible rfl);rotate_left;(simp only [Act.put,setIfInBounds_toArray,set_cons_zero,set_cons_succ,i64_w,i32_w];rfl)
        refine take_ (i:=10) (N:=some 71) (v:=?_) (a':=?_) #[true,false,true,true,true,true,true,true,true,true,true,true,true,true,false,false,false,false,false,false,false] rfl rfl (take_ofW HT_.out HW_.out (by kernel_rfl)) (fun _ _ _ h => h) (Or.inl ⟨by rfl,?_⟩) hHeld ?_ ?_
        rotate_left;(rintro w' ⟨s0,s1,s2,s3,s4,s5,s6⟩;go_simp;with_reducible rfl);rotate_left;(simp only [Act.put,setIfInBounds_toArray,set_cons_zero,set_cons_succ,i64_w,i32_w];rfl)
        refine join_ (σ:=Value × Nat) 2 #[true,true,true,true,true,true,true,true,true,true,true,true,true,true,true,true,true,true,true,false,false] (fun s_ => [(62,.agg #[.int .i64 t280,.int .i64 t281]),(75,.tuple #[.agg #[s_.1,.int .i64 t287,.int .i64 t288],.int .i64 t289]),(16,.pointer (some ⟨s_.2,0,none⟩)),(60,.tuple #[.agg #[s_.1,.int .i64 t287,.int .i64 t288],.int .i64 t289]),(76,.agg #[s_.1,.int .i64 t287,.int .i64 t288]),(77,.int .i64 t289)]) (fun s_ w' => (w'.cell? ⟨gb265,0,none⟩ = some (.int .i64 a0_0)∧w'.cell? ⟨gb265,1,none⟩ = some (.int .i64 a0_1)∧w'.cell? ⟨gb273,0,none⟩ = some (.slice Ao116 x274000_3.length co116)∧w'.cell? ⟨gb273,1,none⟩ = some (.int .i64 x274001_3)∧w'.cell? ⟨gb273,2,none⟩ = some (.int .i64 x274002_3)∧w'.cell? (ad282.add (x14_3).toNat) = some (.int .i64 (rd l2 x14_3))∧w'.cell? (ad283.add (x14_3).toNat) = some (.slice A283_0 (rd_L6 l3 x14_3).length c283_0))∧(Kd.R (Kd.int .i64) 3 w' w.heap.size (fun _ => True) (.slice Ao118 t277.length co118) t277)∧(Kd.R k62 62 w' w.heap.size (fun k_ => some k_ ≠ (.slice Ao116 x274000_3.length co116 : Value).ownBlock) s_.1 t284)∧(Kd.R k62 62 w' w.heap.size (fun k_ => some k_ ≠ (s_.1 : Value).ownBlock) (.slice Ao116 x274000_3.length co116) x274000_3)∧(w'.heap[gb265]? = some (.cells #[.int .i64 a0_0,.int .i64 a0_1] 23 (0,0)))∧(w'.heap[gb273]? = some (.cells #[.slice Ao116 x274000_3.length co116,.int .i64 x274001_3,.int .i64 x274002_3] 32 (0,0)))∧(w'.heap[s_.2]? = some (.cells #[.slice none 0 0,.int .i64 0,.int .i64 0] 32 (0,0)))∧(w.heap.size ≤ s_.2)∧(w.heap.size ≤ s_.2)∧(gb265 ≠ s_.2)∧(s_.2 ≠ gb265)∧(gb273 ≠ s_.2)∧(s_.2 ≠ gb273)∧(Below w.heap.size w w')) ?_ ?_
        rotate_left
        ·intro hCont
         refine two_ (i:=1) (j:=18) (Ni:=some 62) (Nj:=some 16) #[true,true,true,true,true,true,true,true,true,true,true,true,true,true,false,false,false,false,false,false,false] #[true,false,true,true,true,true,true,true,true,true,true,true,true,true,false,false,false,false,true,false,false] rfl rfl rfl rfl (two_of HT_.out (by kernel_rfl)) (by decide) (by decide) (fun K hK => ?_) (fun K hK => ?_)
         ·skip
          refine goes_ Try.func15 (by kernel_rfl) rfl #[.agg #[.int .i64 a0_0,.int .i64 a0_1]] (by rfl) rfl rfl (by (try simp only [List.map_toArray,List.map_cons,List.map_nil]);first|done|rfl|(simp only [List.length_drop,List.length_take];rfl)) ?_
          with_reducible refine (plenumlaw55_rule.calls a0_0 a0_1 t280 t281 _ A33.out).mono ?_
          rintro e w120 ⟨rfl,hb⟩
          refine ⟨_,rfl,?_⟩
          have n0_:=Aside0.mk (Kd.R_below (by (with_reducible repeat (first|apply Kd.R_alloc|apply Kd.R_drewN|apply Kd.R_drew));exact HO_274000.out) hb)
          have n1_:=Aside0.mk (Kd.R_below (by (with_reducible repeat (first|apply Kd.R_alloc|apply Kd.R_drewN|apply Kd.R_drew));exact HO279.out) hb)
          have n2_:=Aside0.mk (blk_below (g:=gb265) (o:=.cells #[.int .i64 a0_0,.int .i64 a0_1] 23 (0,0)) (by (with_reducible repeat (first|refine blk_drewN ?_ _|refine blk_drew ?_|refine blk_alloc ?_ _));exact BK265.out) hb)
          have n3_:=Aside0.mk (blk_below (g:=gb273) (o:=.cells #[.slice Ao116 x274000_3.length co116,.int .i64 x274001_3,.int .i64 x274002_3] 32 (0,0)) (by (with_reducible repeat (first|refine blk_drewN ?_ _|refine blk_drew ?_|refine blk_alloc ?_ _));exact BK273.out) hb)
          have n4_:=Aside0.mk (below_step (by repeat (first|(with_reducible first|exact HB.out|apply below_alloc|apply pw_below_drewN|apply below_drew1|refine below_set ?_ GE265.out|refine below_set ?_ GE273.out)|exact HB.out)) hb)
          clear HO_274000
          clear HO279
          clear BK265
          clear BK273
          clear HB
          have HO_274000:=n0_
          have HO279:=n1_
          have BK265:=n2_
          have BK273:=n3_
          have HB:=n4_
          clear n0_ n1_ n2_ n3_ n4_
          (try clear hb)
          (try clear hb2)
          (try clear hk)
          (try clear hi)
          refine hK.out _ _ ⟨(blk_cell BK265.out 0).trans rfl,(blk_cell BK265.out 1).trans rfl,(blk_cell BK273.out 0).trans rfl,(blk_cell BK273.out 1).trans rfl,(blk_cell BK273.out 2).trans rfl,((HB.out.cell (World.block_lt_of_cell? w _ hw282_0)).trans hw282_0),((HB.out.cell (World.block_lt_of_cell? w _ hw283_0)).trans hw283_0)⟩ (fun hHeld => ?_)
          clear hK K
          refine norm_ (a':=?_) ?_ ?_
          rotate_left
          ·show Act.put _ (some 62) _ = _
           simp only [Act.put,setIfInBounds_toArray,set_cons_zero,set_cons_succ,i64_w,i32_w]
           rfl
          refine two_ (i:=14) (j:=18) (Ni:=some 75) (Nj:=some 16) #[true,true,true,true,true,true,true,true,true,true,true,true,true,true,true,false,false,false,false,false,false] #[true,true,true,true,true,true,true,true,true,true,true,true,true,true,false,false,false,false,true,false,false] rfl rfl rfl rfl (two_of HT_.out (by kernel_rfl)) (by decide) (by decide) (fun K hK => ?_) (fun K hK => ?_)
          ·skip
           refine goes_ Try.func28 (by kernel_rfl) rfl #[.agg #[.int .i64 t280,.int .i64 t281],.agg #[.slice Ao116 x274000_3.length co116,.int .i64 x274001_3,.int .i64 x274002_3],.int .i64 (rd l2 x14_3),.slice A283_0 (rd_L6 l3 x14_3).length c283_0,.int .i64 (wrap64 (a4 + x14_3))] (by rfl) rfl rfl (by (try simp only [List.map_toArray,List.map_cons,List.map_nil]);first|done|rfl|(simp only [List.length_drop,List.length_take];rfl)) ?_
           with_reducible refine (leadlag_Step.calls k3 t280 t281 _ _ x274000_3 x274001_3 x274002_3 (rd l2 x14_3) _ _ (rd_L6 l3 x14_3) (wrap64 (a4 + x14_3)) t284 t287 t288 t289 _ ?side1 ?side2 ?side3 ?side4 A36.out).mono ?_
           (case side1 => repeat (first|exact (Kd.R_reads' HO_274000.out).2.2|(with_reducible refine Kd.C_alloc ?_ _)|(with_reducible refine Kd.C_drewN ?_ _)|(with_reducible refine Kd.C_drew ?_)))
           (case side2 => exact (Kd.R_reads' HO_274000.out).2.1)
           (case side3 => repeat (first|exact (Kd.C_below HR283_0.out HB.out)|(with_reducible refine Kd.C_alloc ?_ _)|(with_reducible refine Kd.C_drewN ?_ _)|(with_reducible refine Kd.C_drew ?_)))
           (case side4 => exact HC283_0.out)
           rintro e w121 ⟨v285,rfl,ho0,hb⟩
           refine ⟨_,rfl,?_⟩
           have n0_:=Aside0.mk (Kd.R_elder' (by (with_reducible repeat (first|apply Kd.R_alloc|apply Kd.R_drewN|apply Kd.R_drew));exact HO_274000.out) (Kd.R_base ho0) hb)
           have n1_:=Aside0.mk (Kd.R_below (by (with_reducible repeat (first|apply Kd.R_alloc|apply Kd.R_drewN|apply Kd.R_drew));exact HO279.out) hb)
           have n2_:=Aside0.mk (Kd.R_lower (Kd.R_new' ho0 (Kd.R_lt (by (with_reducible repeat (first|apply Kd.R_alloc|apply Kd.R_drewN|apply Kd.R_drew));exact HO_274000.out))) (below_size (by repeat (first|(with_reducible first|exact HB.out|apply below_alloc|apply pw_below_drewN|apply below_drew1|refine below_set ?_ GE265.out|refine below_set ?_ GE273.out)|exact HB.out))))
           have n3_:=Aside0.mk (blk_below (g:=gb265) (o:=.cells #[.int .i64 a0_0,.int .i64 a0_1] 23 (0,0)) (by (with_reducible repeat (first|refine blk_drewN ?_ _|refine blk_drew ?_|refine blk_alloc ?_ _));exact BK265.out) hb)
           have n4_:=Aside0.mk (blk_below (g:=gb273) (o:=.cells #[.slice Ao116 x274000_3.length co116,.int .i64 x274001_3,.int .i64 x274002_3] 32 (0,0)) (by (with_reducible repeat (first|refine blk_drewN ?_ _|refine blk_drew ?_|refine blk_alloc ?_ _));exact BK273.out) hb)
           have n5_:=Aside0.mk (below_step (by repeat (first|(with_reducible first|exact HB.out|apply below_alloc|apply pw_below_drewN|apply below_drew1|refine below_set ?_ GE265.out|refine below_set ?_ GE273.out)|exact HB.out)) hb)
           clear HO_274000
           clear HO279
           clear BK265
           clear BK273
           clear HB
           have HO_274000:=n0_
           have HO279:=n1_
           have HO286:=n2_
           have BK265:=n3_
           have BK273:=n4_
           have HB:=n5_
           clear n0_ n1_ n2_ n3_ n4_ n5_
           (try clear hb)
           (try clear hb2)
           (try clear hk)
           (try clear hi)
           (try clear ho0)
           refine hK.out _ _ ⟨(blk_cell BK265.out 0).trans rfl,(blk_cell BK265.out 1).trans rfl,(blk_cell BK273.out 0).trans rfl,(blk_cell BK273.out 1).trans rfl,(blk_cell BK273.out 2).trans rfl,((HB.out.cell (World.block_lt_of_cell? w _ hw282_0)).trans hw282_0),((HB.out.cell (World.block_lt_of_cell? w _ hw283_0)).trans hw283_0)⟩ (fun hHeld => ?_)
           clear hK K
           refine norm_ (a':=?_) ?_ ?_
           rotate_left
           ·show Act.put _ (some 75) _ = _
            simp only [Act.put,setIfInBounds_toArray,set_cons_zero,set_cons_succ,i64_w,i32_w]
            rfl
           refine pure_ (i:=15) (N:=some 60) (v:=?_) (a':=?_) #[true,true,true,true,true,true,true,true,true,true,true,true,true,true,true,true,false,false,false,false,false] rfl rfl (any_of HT_.out (by kernel_rfl)) (fun _ _ _ h => h) (Or.inl ⟨by rfl,?_⟩) ?_ ?_
           rotate_left;(intro w';go_simp;with_reducible rfl);rotate_left;(simp only [Act.put,setIfInBounds_toArray,set_cons_zero,set_cons_succ,i64_w,i32_w];rfl)
           refine pure_ (i:=16) (N:=some 76) (v:=?_) (a':=?_) #[true,true,true,true,true,true,true,true,true,true,true,true,true,true,true,true,true,false,false,false,false] rfl rfl (any_of HT_.out (by kernel_rfl)) (fun _ _ _ h => h) (Or.inl ⟨by rfl,?_⟩) ?_ ?_
           rotate_left;(intro w';go_simp;with_reducible rfl);rotate_left;(simp only [Act.put,setIfInBounds_toArray,set_cons_zero,set_cons_succ,i64_w,i32_w];rfl)
           refine pure_ (i:=17) (N:=some 77) (v:=?_) (a':=?_) #[true,true,true,true,true,true,true,true,true,true,true,true,true,true,true,true,true,true,false,false,false] rfl rfl (any_of HT_.out (by kernel_rfl)) (fun _ _ _ h => h) (Or.inl ⟨by rfl,?_⟩) ?_ ?_
           rotate_left;(intro w';go_simp;with_reducible rfl);rotate_left;(simp only [Act.put,setIfInBounds_toArray,set_cons_zero,set_cons_succ,i64_w,i32_w];rfl)
           refine one_ (i:=18) (N:=some 16) #[true,true,true,true,true,true,true,true,true,true,true,true,true,true,true,true,true,true,true,false,false] rfl rfl (one_of HT_.out (by kernel_rfl)) (by decide) (fun K hK => ?_)
           refine box_step ?hg (N:=16) ?hd (cs:=#[.slice none 0 0,.int .i64 0,.int .i64 0]) (t:=32) ?hr ?_;(case hd => rfl);(case hg => rfl);(case hr => first|(go_simp;done)|(go_simp;rfl))
           intro gb290 hg w122 hbox hb
           have n0_:=Aside0.mk (Kd.R_below (by (with_reducible repeat (first|apply Kd.R_alloc|apply Kd.R_drewN|apply Kd.R_drew));exact HO_274000.out) hb)
           have n1_:=Aside0.mk (Kd.R_below (by (with_reducible repeat (first|apply Kd.R_alloc|apply Kd.R_drewN|apply Kd.R_drew));exact HO279.out) hb)
           have n2_:=Aside0.mk (Kd.R_below (by (with_reducible repeat (first|apply Kd.R_alloc|apply Kd.R_drewN|apply Kd.R_drew));exact HO286.out) hb)
           have n3_:=Aside0.mk (blk_below (g:=gb265) (o:=.cells #[.int .i64 a0_0,.int .i64 a0_1] 23 (0,0)) (by (with_reducible repeat (first|refine blk_drewN ?_ _|refine blk_drew ?_|refine blk_alloc ?_ _));exact BK265.out) hb)
           have n4_:=Aside0.mk (blk_below (g:=gb273) (o:=.cells #[.slice Ao116 x274000_3.length co116,.int .i64 x274001_3,.int .i64 x274002_3] 32 (0,0)) (by (with_reducible repeat (first|refine blk_drewN ?_ _|refine blk_drew ?_|refine blk_alloc ?_ _));exact BK273.out) hb)
           have n5_:=Aside0.mk (below_step (by repeat (first|(with_reducible first|exact HB.out|apply below_alloc|apply pw_below_drewN|apply below_drew1|refine below_set ?_ GE265.out|refine below_set ?_ GE273.out)|exact HB.out)) hb)
           have n6_:=Aside0.mk (hbox)
           have n7_:=Aside0.mk ((by rw [hg];exact (below_size (by repeat (first|(with_reducible first|exact HB.out|apply below_alloc|apply pw_below_drewN|apply below_drew1|refine below_set ?_ GE265.out|refine below_set ?_ GE273.out)|exact HB.out))) : w.heap.size ≤ gb290))
           have n8_:=Aside0.mk ((by rw [hg];exact (below_size (by repeat (first|(with_reducible first|exact HB.out|apply below_alloc|apply pw_below_drewN|apply below_drew1|refine below_set ?_ GE265.out|refine below_set ?_ GE273.out)|exact HB.out))) : w.heap.size ≤ gb290))
           have n9_:=Aside0.mk ((by rw [hg];exact Nat.ne_of_lt (blk_lt (g:=gb265) (o:=.cells #[.int .i64 a0_0,.int .i64 a0_1] 23 (0,0)) (by (with_reducible repeat (first|refine blk_drewN ?_ _|refine blk_drew ?_|refine blk_alloc ?_ _));exact BK265.out)) : gb265 ≠ gb290))
           have n10_:=Aside0.mk ((by rw [hg];exact Nat.ne_of_gt (blk_lt (g:=gb265) (o:=.cells #[.int .i64 a0_0,.int .i64 a0_1] 23 (0,0)) (by (with_reducible repeat (first|refine blk_drewN ?_ _|refine blk_drew ?_|refine blk_alloc ?_ _));exact BK265.out)) : gb290 ≠ gb265))
           have n11_:=Aside0.mk ((by rw [hg];exact Nat.ne_of_lt (blk_lt (g:=gb273) (o:=.cells #[.slice Ao116 x274000_3.length co116,.int .i64 x274001_3,.int .i64 x274002_3] 32 (0,0)) (by (with_reducible repeat (first|refine blk_drewN ?_ _|refine blk_drew ?_|refine blk_alloc ?_ _));exact BK273.out)) : gb273 ≠ gb290))
           have n12_:=Aside0.mk ((by rw [hg];exact Nat.ne_of_gt (blk_lt (g:=gb273) (o:=.cells #[.slice Ao116 x274000_3.length co116,.int .i64 x274001_3,.int .i64 x274002_3] 32 (0,0)) (by (with_reducible repeat (first|refine blk_drewN ?_ _|refine blk_drew ?_|refine blk_alloc ?_ _));exact BK273.out)) : gb290 ≠ gb273))
           clear HO_274000
           clear HO279
           clear HO286
           clear BK265
           clear BK273
           clear HB
           have HO_274000:=n0_
           have HO279:=n1_
           have HO286:=n2_
           have BK265:=n3_
           have BK273:=n4_
           have HB:=n5_
           have BK290:=n6_
           have GW290:=n7_
           have GE290:=n8_
           have NB265_290:=n9_
           have NB290_265:=n10_
           have NB273_290:=n11_
           have NB290_273:=n12_
           clear n0_ n1_ n2_ n3_ n4_ n5_ n6_ n7_ n8_ n9_ n10_ n11_ n12_
           clear hb hbox hg
           refine hK.out _ _ ⟨(blk_cell BK265.out 0).trans rfl,(blk_cell BK265.out 1).trans rfl,(blk_cell BK273.out 0).trans rfl,(blk_cell BK273.out 1).trans rfl,(blk_cell BK273.out 2).trans rfl,((HB.out.cell (World.block_lt_of_cell? w _ hw282_0)).trans hw282_0),((HB.out.cell (World.block_lt_of_cell? w _ hw283_0)).trans hw283_0)⟩ (fun hHeld => ?_)
           clear hK K
           refine norm_ (a':=?_) ?_ ?_
           rotate_left
           ·show Act.put _ (some 16) _ = _
            simp only [Act.put,setIfInBounds_toArray,set_cons_zero,set_cons_succ,i64_w,i32_w]
            rfl
           exact norm_ (by simp only [putAll,Act.put,setIfInBounds_toArray,set_cons_zero,set_cons_succ]) (hCont (v285,gb290) _ ⟨hHeld,(by (with_reducible repeat (first|apply Kd.R_alloc|apply Kd.R_drewN|apply Kd.R_drew));exact HO279.out),(by (with_reducible repeat (first|apply Kd.R_alloc|apply Kd.R_drewN|apply Kd.R_drew));exact Kd.R_mono HO286.out (fun _ hk => hk.2)),(by (with_reducible repeat (first|apply Kd.R_alloc|apply Kd.R_drewN|apply Kd.R_drew));exact Kd.R_mono HO_274000.out (fun _ hk => hk.2)),(by (with_reducible repeat (first|refine blk_drewN ?_ _|refine blk_drew ?_|refine blk_alloc ?_ _));exact BK265.out),(by (with_reducible repeat (first|refine blk_drewN ?_ _|refine blk_drew ?_|refine blk_alloc ?_ _));exact BK273.out),(by (with_reducible repeat (first|refine blk_drewN ?_ _|refine blk_drew ?_|refine blk_alloc ?_ _));exact BK290.out),GW290.out,GE290.out,NB265_290.out,NB290_265.out,NB273_290.out,NB290_273.out,(by repeat (first|(with_reducible first|exact HB.out|apply below_alloc|apply pw_below_drewN|apply below_drew1|refine below_set ?_ GE265.out|refine below_set ?_ GE273.out|refine below_set ?_ GE290.out)|exact HB.out))⟩)
          ·skip
           refine box_step ?hg (N:=16) ?hd (cs:=#[.slice none 0 0,.int .i64 0,.int .i64 0]) (t:=32) ?hr ?_;(case hd => rfl);(case hg => rfl);(case hr => first|(go_simp;done)|(go_simp;rfl))
           intro gb290 hg w121 hbox hb
           have n0_:=Aside0.mk (Kd.R_below (by (with_reducible repeat (first|apply Kd.R_alloc|apply Kd.R_drewN|apply Kd.R_drew));exact HO_274000.out) hb)
           have n1_:=Aside0.mk (Kd.R_below (by (with_reducible repeat (first|apply Kd.R_alloc|apply Kd.R_drewN|apply Kd.R_drew));exact HO279.out) hb)
           have n2_:=Aside0.mk (blk_below (g:=gb265) (o:=.cells #[.int .i64 a0_0,.int .i64 a0_1] 23 (0,0)) (by (with_reducible repeat (first|refine blk_drewN ?_ _|refine blk_drew ?_|refine blk_alloc ?_ _));exact BK265.out) hb)
           have n3_:=Aside0.mk (blk_below (g:=gb273) (o:=.cells #[.slice Ao116 x274000_3.length co116,.int .i64 x274001_3,.int .i64 x274002_3] 32 (0,0)) (by (with_reducible repeat (first|refine blk_drewN ?_ _|refine blk_drew ?_|refine blk_alloc ?_ _));exact BK273.out) hb)
           have n4_:=Aside0.mk (below_step (by repeat (first|(with_reducible first|exact HB.out|apply below_alloc|apply pw_below_drewN|apply below_drew1|refine below_set ?_ GE265.out|refine below_set ?_ GE273.out)|exact HB.out)) hb)
           have n5_:=Aside0.mk (hbox)
           have n6_:=Aside0.mk ((by rw [hg];exact (below_size (by repeat (first|(with_reducible first|exact HB.out|apply below_alloc|apply pw_below_drewN|apply below_drew1|refine below_set ?_ GE265.out|refine below_set ?_ GE273.out)|exact HB.out))) : w.heap.size ≤ gb290))
           have n7_:=Aside0.mk ((by rw [hg];exact (below_size (by repeat (first|(with_reducible first|exact HB.out|apply below_alloc|apply pw_below_drewN|apply below_drew1|refine below_set ?_ GE265.out|refine below_set ?_ GE273.out)|exact HB.out))) : w.heap.size ≤ gb290))
           have n8_:=Aside0.mk ((by rw [hg];exact Nat.ne_of_lt (blk_lt (g:=gb265) (o:=.cells #[.int .i64 a0_0,.int .i64 a0_1] 23 (0,0)) (by (with_reducible repeat (first|refine blk_drewN ?_ _|refine blk_drew ?_|refine blk_alloc ?_ _));exact BK265.out)) : gb265 ≠ gb290))
           have n9_:=Aside0.mk ((by rw [hg];exact Nat.ne_of_gt (blk_lt (g:=gb265) (o:=.cells #[.int .i64 a0_0,.int .i64 a0_1] 23 (0,0)) (by (with_reducible repeat (first|refine blk_drewN ?_ _|refine blk_drew ?_|refine blk_alloc ?_ _));exact BK265.out)) : gb290 ≠ gb265))
           have n10_:=Aside0.mk ((by rw [hg];exact Nat.ne_of_lt (blk_lt (g:=gb273) (o:=.cells #[.slice Ao116 x274000_3.length co116,.int .i64 x274001_3,.int .i64 x274002_3] 32 (0,0)) (by (with_reducible repeat (first|refine blk_drewN ?_ _|refine blk_drew ?_|refine blk_alloc ?_ _));exact BK273.out)) : gb273 ≠ gb290))
           have n11_:=Aside0.mk ((by rw [hg];exact Nat.ne_of_gt (blk_lt (g:=gb273) (o:=.cells #[.slice Ao116 x274000_3.length co116,.int .i64 x274001_3,.int .i64 x274002_3] 32 (0,0)) (by (with_reducible repeat (first|refine blk_drewN ?_ _|refine blk_drew ?_|refine blk_alloc ?_ _));exact BK273.out)) : gb290 ≠ gb273))
           clear HO_274000
           clear HO279
           clear BK265
           clear BK273
           clear HB
           have HO_274000:=n0_
           have HO279:=n1_
           have BK265:=n2_
           have BK273:=n3_
           have HB:=n4_
           have BK290:=n5_
           have GW290:=n6_
           have GE290:=n7_
           have NB265_290:=n8_
           have NB290_265:=n9_
           have NB273_290:=n10_
           have NB290_273:=n11_
           clear n0_ n1_ n2_ n3_ n4_ n5_ n6_ n7_ n8_ n9_ n10_ n11_
           clear hb hbox hg
           refine hK.out _ _ ⟨(blk_cell BK265.out 0).trans rfl,(blk_cell BK265.out 1).trans rfl,(blk_cell BK273.out 0).trans rfl,(blk_cell BK273.out 1).trans rfl,(blk_cell BK273.out 2).trans rfl,((HB.out.cell (World.block_lt_of_cell? w _ hw282_0)).trans hw282_0),((HB.out.cell (World.block_lt_of_cell? w _ hw283_0)).trans hw283_0)⟩ (fun hHeld => ?_)
           clear hK K
           refine norm_ (a':=?_) ?_ ?_
           rotate_left
           ·show Act.put _ (some 16) _ = _
            simp only [Act.put,setIfInBounds_toArray,set_cons_zero,set_cons_succ,i64_w,i32_w]
            rfl
           refine one_ (i:=14) (N:=some 75) #[true,true,true,true,true,true,true,true,true,true,true,true,true,true,true,false,false,false,true,false,false] rfl rfl (one_of HT_.out (by kernel_rfl)) (by decide) (fun K hK => ?_)
           refine goes_ Try.func28 (by kernel_rfl) rfl #[.agg #[.int .i64 t280,.int .i64 t281],.agg #[.slice Ao116 x274000_3.length co116,.int .i64 x274001_3,.int .i64 x274002_3],.int .i64 (rd l2 x14_3),.slice A283_0 (rd_L6 l3 x14_3).length c283_0,.int .i64 (wrap64 (a4 + x14_3))] (by rfl) rfl rfl (by (try simp only [List.map_toArray,List.map_cons,List.map_nil]);first|done|rfl|(simp only [List.length_drop,List.length_take];rfl)) ?_
           with_reducible refine (leadlag_Step.calls k3 t280 t281 _ _ x274000_3 x274001_3 x274002_3 (rd l2 x14_3) _ _ (rd_L6 l3 x14_3) (wrap64 (a4 + x14_3)) t284 t287 t288 t289 _ ?side1 ?side2 ?side3 ?side4 A36.out).mono ?_
           (case side1 => repeat (first|exact (Kd.R_reads' HO_274000.out).2.2|(with_reducible refine Kd.C_alloc ?_ _)|(with_reducible refine Kd.C_drewN ?_ _)|(with_reducible refine Kd.C_drew ?_)))
           (case side2 => exact (Kd.R_reads' HO_274000.out).2.1)
           (case side3 => repeat (first|exact (Kd.C_below HR283_0.out HB.out)|(with_reducible refine Kd.C_alloc ?_ _)|(with_reducible refine Kd.C_drewN ?_ _)|(with_reducible refine Kd.C_drew ?_)))
           (case side4 => exact HC283_0.out)
           rintro e w122 ⟨v285,rfl,ho0,hb⟩
           refine ⟨_,rfl,?_⟩
           have n0_:=Aside0.mk (Kd.R_elder' (by (with_reducible repeat (first|apply Kd.R_alloc|apply Kd.R_drewN|apply Kd.R_drew));exact HO_274000.out) (Kd.R_base ho0) hb)
           have n1_:=Aside0.mk (Kd.R_below (by (with_reducible repeat (first|apply Kd.R_alloc|apply Kd.R_drewN|apply Kd.R_drew));exact HO279.out) hb)
           have n2_:=Aside0.mk (Kd.R_lower (Kd.R_new' ho0 (Kd.R_lt (by (with_reducible repeat (first|apply Kd.R_alloc|apply Kd.R_drewN|apply Kd.R_drew));exact HO_274000.out))) (below_size (by repeat (first|(with_reducible first|exact HB.out|apply below_alloc|apply pw_below_drewN|apply below_drew1|refine below_set ?_ GE265.out|refine below_set ?_ GE273.out|refine below_set ?_ GE290.out)|exact HB.out))))
           have n3_:=Aside0.mk (blk_below (g:=gb265) (o:=.cells #[.int .i64 a0_0,.int .i64 a0_1] 23 (0,0)) (by (with_reducible repeat (first|refine blk_drewN ?_ _|refine blk_drew ?_|refine blk_alloc ?_ _));exact BK265.out) hb)
           have n4_:=Aside0.mk (blk_below (g:=gb273) (o:=.cells #[.slice Ao116 x274000_3.length co116,.int .i64 x274001_3,.int .i64 x274002_3] 32 (0,0)) (by (with_reducible repeat (first|refine blk_drewN ?_ _|refine blk_drew ?_|refine blk_alloc ?_ _));exact BK273.out) hb)
           have n5_:=Aside0.mk (blk_below (g:=gb290) (o:=.cells #[.slice none 0 0,.int .i64 0,.int .i64 0] 32 (0,0)) (by (with_reducible repeat (first|refine blk_drewN ?_ _|refine blk_drew ?_|refine blk_alloc ?_ _));exact BK290.out) hb)
           have n6_:=Aside0.mk (below_step (by repeat (first|(with_reducible first|exact HB.out|apply below_alloc|apply pw_below_drewN|apply below_drew1|refine below_set ?_ GE265.out|refine below_set ?_ GE273.out|refine below_set ?_ GE290.out)|exact HB.out)) hb)
           clear HO_274000
           clear HO279
           clear BK265
           clear BK273
           clear BK290
           clear HB
           have HO_274000:=n0_
           have HO279:=n1_
           have HO286:=n2_
           have BK265:=n3_
           have BK273:=n4_
           have BK290:=n5_
           have HB:=n6_
           clear n0_ n1_ n2_ n3_ n4_ n5_ n6_
           (try clear hb)
           (try clear hb2)
           (try clear hk)
           (try clear hi)
           (try clear ho0)
           refine hK.out _ _ ⟨(blk_cell BK265.out 0).trans rfl,(blk_cell BK265.out 1).trans rfl,(blk_cell BK273.out 0).trans rfl,(blk_cell BK273.out 1).trans rfl,(blk_cell BK273.out 2).trans rfl,((HB.out.cell (World.block_lt_of_cell? w _ hw282_0)).trans hw282_0),((HB.out.cell (World.block_lt_of_cell? w _ hw283_0)).trans hw283_0)⟩ (fun hHeld => ?_)
           clear hK K
           refine norm_ (a':=?_) ?_ ?_
           rotate_left
           ·show Act.put _ (some 75) _ = _
            simp only [Act.put,setIfInBounds_toArray,set_cons_zero,set_cons_succ,i64_w,i32_w]
            rfl
           refine pure_ (i:=15) (N:=some 60) (v:=?_) (a':=?_) #[true,true,true,true,true,true,true,true,true,true,true,true,true,true,true,true,false,false,true,false,false] rfl rfl (any_of HT_.out (by kernel_rfl)) (fun _ _ _ h => h) (Or.inl ⟨by rfl,?_⟩) ?_ ?_
           rotate_left;(intro w';go_simp;with_reducible rfl);rotate_left;(simp only [Act.put,setIfInBounds_toArray,set_cons_zero,set_cons_succ,i64_w,i32_w];rfl)
           refine pure_ (i:=16) (N:=some 76) (v:=?_) (a':=?_) #[true,true,true,true,true,true,true,true,true,true,true,true,true,true,true,true,true,false,true,false,false] rfl rfl (any_of HT_.out (by kernel_rfl)) (fun _ _ _ h => h) (Or.inl ⟨by rfl,?_⟩) ?_ ?_
           rotate_left;(intro w';go_simp;with_reducible rfl);rotate_left;(simp only [Act.put,setIfInBounds_toArray,set_cons_zero,set_cons_succ,i64_w,i32_w];rfl)
           refine pure_ (i:=17) (N:=some 77) (v:=?_) (a':=?_) #[true,true,true,true,true,true,true,true,true,true,true,true,true,true,true,true,true,true,true,false,false] rfl rfl (any_of HT_.out (by kernel_rfl)) (fun _ _ _ h => h) (Or.inl ⟨by rfl,?_⟩) ?_ ?_
           rotate_left;(intro w';go_simp;with_reducible rfl);rotate_left;(simp only [Act.put,setIfInBounds_toArray,set_cons_zero,set_cons_succ,i64_w,i32_w];rfl)
           exact norm_ (by simp only [putAll,Act.put,setIfInBounds_toArray,set_cons_zero,set_cons_succ]) (hCont (v285,gb290) _ ⟨hHeld,(by (with_reducible repeat (first|apply Kd.R_alloc|apply Kd.R_drewN|apply Kd.R_drew));exact HO279.out),(by (with_reducible repeat (first|apply Kd.R_alloc|apply Kd.R_drewN|apply Kd.R_drew));exact Kd.R_mono HO286.out (fun _ hk => hk.2)),(by (with_reducible repeat (first|apply Kd.R_alloc|apply Kd.R_drewN|apply Kd.R_drew));exact Kd.R_mono HO_274000.out (fun _ hk => hk.2)),(by (with_reducible repeat (first|refine blk_drewN ?_ _|refine blk_drew ?_|refine blk_alloc ?_ _));exact BK265.out),(by (with_reducible repeat (first|refine blk_drewN ?_ _|refine blk_drew ?_|refine blk_alloc ?_ _));exact BK273.out),(by (with_reducible repeat (first|refine blk_drewN ?_ _|refine blk_drew ?_|refine blk_alloc ?_ _));exact BK290.out),GW290.out,GE290.out,NB265_290.out,NB290_265.out,NB273_290.out,NB290_273.out,(by repeat (first|(with_reducible first|exact HB.out|apply below_alloc|apply pw_below_drewN|apply below_drew1|refine below_set ?_ GE265.out|refine below_set ?_ GE273.out|refine below_set ?_ GE290.out)|exact HB.out))⟩)
         ·skip
          refine box_step ?hg (N:=16) ?hd (cs:=#[.slice none 0 0,.int .i64 0,.int .i64 0]) (t:=32) ?hr ?_;(case hd => rfl);(case hg => rfl);(case hr => first|(go_simp;done)|(go_simp;rfl))
          intro gb290 hg w120 hbox hb
          have n0_:=Aside0.mk (Kd.R_below (by (with_reducible repeat (first|apply Kd.R_alloc|apply Kd.R_drewN|apply Kd.R_drew));exact HO_274000.out) hb)
          have n1_:=Aside0.mk (Kd.R_below (by (with_reducible repeat (first|apply Kd.R_alloc|apply Kd.R_drewN|apply Kd.R_drew));exact HO279.out) hb)
          have n2_:=Aside0.mk (blk_below (g:=gb265) (o:=.cells #[.int .i64 a0_0,.int .i64 a0_1] 23 (0,0)) (by (with_reducible repeat (first|refine blk_drewN ?_ _|refine blk_drew ?_|refine blk_alloc ?_ _));exact BK265.out) hb)
          have n3_:=Aside0.mk (blk_below (g:=gb273) (o:=.cells #[.slice Ao116 x274000_3.length co116,.int .i64 x274001_3,.int .i64 x274002_3] 32 (0,0)) (by (with_reducible repeat (first|refine blk_drewN ?_ _|refine blk_drew ?_|refine blk_alloc ?_ _));exact BK273.out) hb)
          have n4_:=Aside0.mk (below_step (by repeat (first|(with_reducible first|exact HB.out|apply below_alloc|apply pw_below_drewN|apply below_drew1|refine below_set ?_ GE265.out|refine below_set ?_ GE273.out)|exact HB.out)) hb)
          have n5_:=Aside0.mk (hbox)
          have n6_:=Aside0.mk ((by rw [hg];exact (below_size (by repeat (first|(with_reducible first|exact HB.out|apply below_alloc|apply pw_below_drewN|apply below_drew1|refine below_set ?_ GE265.out|refine below_set ?_ GE273.out)|exact HB.out))) : w.heap.size ≤ gb290))
          have n7_:=Aside0.mk ((by rw [hg];exact (below_size (by repeat (first|(with_reducible first|exact HB.out|apply below_alloc|apply pw_below_drewN|apply below_drew1|refine below_set ?_ GE265.out|refine below_set ?_ GE273.out)|exact HB.out))) : w.heap.size ≤ gb290))
          have n8_:=Aside0.mk ((by rw [hg];exact Nat.ne_of_lt (blk_lt (g:=gb265) (o:=.cells #[.int .i64 a0_0,.int .i64 a0_1] 23 (0,0)) (by (with_reducible repeat (first|refine blk_drewN ?_ _|refine blk_drew ?_|refine blk_alloc ?_ _));exact BK265.out)) : gb265 ≠ gb290))
          have n9_:=Aside0.mk ((by rw [hg];exact Nat.ne_of_gt (blk_lt (g:=gb265) (o:=.cells #[.int .i64 a0_0,.int .i64 a0_1] 23 (0,0)) (by (with_reducible repeat (first|refine blk_drewN ?_ _|refine blk_drew ?_|refine blk_alloc ?_ _));exact BK265.out)) : gb290 ≠ gb265))
          have n10_:=Aside0.mk ((by rw [hg];exact Nat.ne_of_lt (blk_lt (g:=gb273) (o:=.cells #[.slice Ao116 x274000_3.length co116,.int .i64 x274001_3,.int .i64 x274002_3] 32 (0,0)) (by (with_reducible repeat (first|refine blk_drewN ?_ _|refine blk_drew ?_|refine blk_alloc ?_ _));exact BK273.out)) : gb273 ≠ gb290))
          have n11_:=Aside0.mk ((by rw [hg];exact Nat.ne_of_gt (blk_lt (g:=gb273) (o:=.cells #[.slice Ao116 x274000_3.length co116,.int .i64 x274001_3,.int .i64 x274002_3] 32 (0,0)) (by (with_reducible repeat (first|refine blk_drewN ?_ _|refine blk_drew ?_|refine blk_alloc ?_ _));exact BK273.out)) : gb290 ≠ gb273))
          clear HO_274000
          clear HO279
          clear BK265
          clear BK273
          clear HB
          have HO_274000:=n0_
          have HO279:=n1_
          have BK265:=n2_
          have BK273:=n3_
          have HB:=n4_
          have BK290:=n5_
          have GW290:=n6_
          have GE290:=n7_
          have NB265_290:=n8_
          have NB290_265:=n9_
          have NB273_290:=n10_
          have NB290_273:=n11_
          clear n0_ n1_ n2_ n3_ n4_ n5_ n6_ n7_ n8_ n9_ n10_ n11_
          clear hb hbox hg
          refine hK.out _ _ ⟨(blk_cell BK265.out 0).trans rfl,(blk_cell BK265.out 1).trans rfl,(blk_cell BK273.out 0).trans rfl,(blk_cell BK273.out 1).trans rfl,(blk_cell BK273.out 2).trans rfl,((HB.out.cell (World.block_lt_of_cell? w _ hw282_0)).trans hw282_0),((HB.out.cell (World.block_lt_of_cell? w _ hw283_0)).trans hw283_0)⟩ (fun hHeld => ?_)
          clear hK K
          refine norm_ (a':=?_) ?_ ?_
          rotate_left
          ·show Act.put _ (some 16) _ = _
           simp only [Act.put,setIfInBounds_toArray,set_cons_zero,set_cons_succ,i64_w,i32_w]
           rfl
          refine one_ (i:=1) (N:=some 62) #[true,true,true,true,true,true,true,true,true,true,true,true,true,true,false,false,false,false,true,false,false] rfl rfl (one_of HT_.out (by kernel_rfl)) (by decide) (fun K hK => ?_)
          refine goes_ Try.func15 (by kernel_rfl) rfl #[.agg #[.int .i64 a0_0,.int .i64 a0_1]] (by rfl) rfl rfl (by (try simp only [List.map_toArray,List.map_cons,List.map_nil]);first|done|rfl|(simp only [List.length_drop,List.length_take];rfl)) ?_
          with_reducible refine (plenumlaw55_rule.calls a0_0 a0_1 t280 t281 _ A33.out).mono ?_
          rintro e w121 ⟨rfl,hb⟩
          refine ⟨_,rfl,?_⟩
          have n0_:=Aside0.mk (Kd.R_below (by (with_reducible repeat (first|apply Kd.R_alloc|apply Kd.R_drewN|apply Kd.R_drew));exact HO_274000.out) hb)
          have n1_:=Aside0.mk (Kd.R_below (by (with_reducible repeat (first|apply Kd.R_alloc|apply Kd.R_drewN|apply Kd.R_drew));exact HO279.out) hb)
          have n2_:=Aside0.mk (blk_below (g:=gb265) (o:=.cells #[.int .i64 a0_0,.int .i64 a0_1] 23 (0,0)) (by (with_reducible repeat (first|refine blk_drewN ?_ _|refine blk_drew ?_|refine blk_alloc ?_ _));exact BK265.out) hb)
          have n3_:=Aside0.mk (blk_below (g:=gb273) (o:=.cells #[.slice Ao116 x274000_3.length co116,.int .i64 x274001_3,.int .i64 x274002_3] 32 (0,0)) (by (with_reducible repeat (first|refine blk_drewN ?_ _|refine blk_drew ?_|refine blk_alloc ?_ _));exact BK273.out) hb)
          have n4_:=Aside0.mk (blk_below (g:=gb290) (o:=.cells #[.slice none 0 0,.int .i64 0,.int .i64 0] 32 (0,0)) (by (with_reducible repeat (first|refine blk_drewN ?_ _|refine blk_drew ?_|refine blk_alloc ?_ _));exact BK290.out) hb)
          have n5_:=Aside0.mk (below_step (by repeat (first|(with_reducible first|exact HB.out|apply below_alloc|apply pw_below_drewN|apply below_drew1|refine below_set ?_ GE265.out|refine below_set ?_ GE273.out|refine below_set ?_ GE290.out)|exact HB.out)) hb)
          clear HO_274000
          clear HO279
          clear BK265
          clear BK273
          clear BK290
          clear HB
          have HO_274000:=n0_
          have HO279:=n1_
          have BK265:=n2_
          have BK273:=n3_
          have BK290:=n4_
          have HB:=n5_
          clear n0_ n1_ n2_ n3_ n4_ n5_
          (try clear hb)
          (try clear hb2)
          (try clear hk)
          (try clear hi)
          refine hK.out _ _ ⟨(blk_cell BK265.out 0).trans rfl,(blk_cell BK265.out 1).trans rfl,(blk_cell BK273.out 0).trans rfl,(blk_cell BK273.out 1).trans rfl,(blk_cell BK273.out 2).trans rfl,((HB.out.cell (World.block_lt_of_cell? w _ hw282_0)).trans hw282_0),((HB.out.cell (World.block_lt_of_cell? w _ hw283_0)).trans hw283_0)⟩ (fun hHeld => ?_)
          clear hK K
          refine norm_ (a':=?_) ?_ ?_
          rotate_left
          ·show Act.put _ (some 62) _ = _
           simp only [Act.put,setIfInBounds_toArray,set_cons_zero,set_cons_succ,i64_w,i32_w]
           rfl
          refine one_ (i:=14) (N:=some 75) #[true,true,true,true,true,true,true,true,true,true,true,true,true,true,true,false,false,false,true,false,false] rfl rfl (one_of HT_.out (by kernel_rfl)) (by decide) (fun K hK => ?_)
          refine goes_ Try.func28 (by kernel_rfl) rfl #[.agg #[.int .i64 t280,.int .i64 t281],.agg #[.slice Ao116 x274000_3.length co116,.int .i64 x274001_3,.int .i64 x274002_3],.int .i64 (rd l2 x14_3),.slice A283_0 (rd_L6 l3 x14_3).length c283_0,.int .i64 (wrap64 (a4 + x14_3))] (by rfl) rfl rfl (by (try simp only [List.map_toArray,List.map_cons,List.map_nil]);first|done|rfl|(simp only [List.length_drop,List.length_take];rfl)) ?_
          with_reducible refine (leadlag_Step.calls k3 t280 t281 _ _ x274000_3 x274001_3 x274002_3 (rd l2 x14_3) _ _ (rd_L6 l3 x14_3) (wrap64 (a4 + x14_3)) t284 t287 t288 t289 _ ?side1 ?side2 ?side3 ?side4 A36.out).mono ?_
          (case side1 => repeat (first|exact (Kd.R_reads' HO_274000.out).2.2|(with_reducible refine Kd.C_alloc ?_ _)|(with_reducible refine Kd.C_drewN ?_ _)|(with_reducible refine Kd.C_drew ?_)))
          (case side2 => exact (Kd.R_reads' HO_274000.out).2.1)
          (case side3 => repeat (first|exact (Kd.C_below HR283_0.out HB.out)|(with_reducible refine Kd.C_alloc ?_ _)|(with_reducible refine Kd.C_drewN ?_ _)|(with_reducible refine Kd.C_drew ?_)))
          (case side4 => exact HC283_0.out)
          rintro e w122 ⟨v285,rfl,ho0,hb⟩
          refine ⟨_,rfl,?_⟩
          have n0_:=Aside0.mk (Kd.R_elder' (by (with_reducible repeat (first|apply Kd.R_alloc|apply Kd.R_drewN|apply Kd.R_drew));exact HO_274000.out) (Kd.R_base ho0) hb)
          have n1_:=Aside0.mk (Kd.R_below (by (with_reducible repeat (first|apply Kd.R_alloc|apply Kd.R_drewN|apply Kd.R_drew));exact HO279.out) hb)
          have n2_:=Aside0.mk (Kd.R_lower (Kd.R_new' ho0 (Kd.R_lt (by (with_reducible repeat (first|apply Kd.R_alloc|apply Kd.R_drewN|apply Kd.R_drew));exact HO_274000.out))) (below_size (by repeat (first|(with_reducible first|exact HB.out|apply below_alloc|apply pw_below_drewN|apply below_drew1|refine below_set ?_ GE265.out|refine below_set ?_ GE273.out|refine below_set ?_ GE290.out)|exact HB.out))))
          have n3_:=Aside0.mk (blk_below (g:=gb265) (o:=.cells #[.int .i64 a0_0,.int .i64 a0_1] 23 (0,0)) (by (with_reducible repeat (first|refine blk_drewN ?_ _|refine blk_drew ?_|refine blk_alloc ?_ _));exact BK265.out) hb)
          have n4_:=Aside0.mk (blk_below (g:=gb273) (o:=.cells #[.slice Ao116 x274000_3.length co116,.int .i64 x274001_3,.int .i64 x274002_3] 32 (0,0)) (by (with_reducible repeat (first|refine blk_drewN ?_ _|refine blk_drew ?_|refine blk_alloc ?_ _));exact BK273.out) hb)
          have n5_:=Aside0.mk (blk_below (g:=gb290) (o:=.cells #[.slice none 0 0,.int .i64 0,.int .i64 0] 32 (0,0)) (by (with_reducible repeat (first|refine blk_drewN ?_ _|refine blk_drew ?_|refine blk_alloc ?_ _));exact BK290.out) hb)
          have n6_:=Aside0.mk (below_step (by repeat (first|(with_reducible first|exact HB.out|apply below_alloc|apply pw_below_drewN|apply below_drew1|refine below_set ?_ GE265.out|refine below_set ?_ GE273.out|refine below_set ?_ GE290.out)|exact HB.out)) hb)
          clear HO_274000
          clear HO279
          clear BK265
          clear BK273
          clear BK290
          clear HB
          have HO_274000:=n0_
          have HO279:=n1_
          have HO286:=n2_
          have BK265:=n3_
          have BK273:=n4_
          have BK290:=n5_
          have HB:=n6_
          clear n0_ n1_ n2_ n3_ n4_ n5_ n6_
          (try clear hb)
          (try clear hb2)
          (try clear hk)
          (try clear hi)
          (try clear ho0)
          refine hK.out _ _ ⟨(blk_cell BK265.out 0).trans rfl,(blk_cell BK265.out 1).trans rfl,(blk_cell BK273.out 0).trans rfl,(blk_cell BK273.out 1).trans rfl,(blk_cell BK273.out 2).trans rfl,((HB.out.cell (World.block_lt_of_cell? w _ hw282_0)).trans hw282_0),((HB.out.cell (World.block_lt_of_cell? w _ hw283_0)).trans hw283_0)⟩ (fun hHeld => ?_)
          clear hK K
          refine norm_ (a':=?_) ?_ ?_
          rotate_left
          ·show Act.put _ (some 75) _ = _
           simp only [Act.put,setIfInBounds_toArray,set_cons_zero,set_cons_succ,i64_w,i32_w]
           rfl
          refine pure_ (i:=15) (N:=some 60) (v:=?_) (a':=?_) #[true,true,true,true,true,true,true,true,true,true,true,true,true,true,true,true,false,false,true,false,false] rfl rfl (any_of HT_.out (by kernel_rfl)) (fun _ _ _ h => h) (Or.inl ⟨by rfl,?_⟩) ?_ ?_
          rotate_left;(intro w';go_simp;with_reducible rfl);rotate_left;(simp only [Act.put,setIfInBounds_toArray,set_cons_zero,set_cons_succ,i64_w,i32_w];rfl)
          refine pure_ (i:=16) (N:=some 76) (v:=?_) (a':=?_) #[true,true,true,true,true,true,true,true,true,true,true,true,true,true,true,true,true,false,true,false,false] rfl rfl (any_of HT_.out (by kernel_rfl)) (fun _ _ _ h => h) (Or.inl ⟨by rfl,?_⟩) ?_ ?_
          rotate_left;(intro w';go_simp;with_reducible rfl);rotate_left;(simp only [Act.put,setIfInBounds_toArray,set_cons_zero,set_cons_succ,i64_w,i32_w];rfl)
          refine pure_ (i:=17) (N:=some 77) (v:=?_) (a':=?_) #[true,true,true,true,true,true,true,true,true,true,true,true,true,true,true,true,true,true,true,false,false] rfl rfl (any_of HT_.out (by kernel_rfl)) (fun _ _ _ h => h) (Or.inl ⟨by rfl,?_⟩) ?_ ?_
          rotate_left;(intro w';go_simp;with_reducible rfl);rotate_left;(simp only [Act.put,setIfInBounds_toArray,set_cons_zero,set_cons_succ,i64_w,i32_w];rfl)
          exact norm_ (by simp only [putAll,Act.put,setIfInBounds_toArray,set_cons_zero,set_cons_succ]) (hCont (v285,gb290) _ ⟨hHeld,(by (with_reducible repeat (first|apply Kd.R_alloc|apply Kd.R_drewN|apply Kd.R_drew));exact HO279.out),(by (with_reducible repeat (first|apply Kd.R_alloc|apply Kd.R_drewN|apply Kd.R_drew));exact Kd.R_mono HO286.out (fun _ hk => hk.2)),(by (with_reducible repeat (first|apply Kd.R_alloc|apply Kd.R_drewN|apply Kd.R_drew));exact Kd.R_mono HO_274000.out (fun _ hk => hk.2)),(by (with_reducible repeat (first|refine blk_drewN ?_ _|refine blk_drew ?_|refine blk_alloc ?_ _));exact BK265.out),(by (with_reducible repeat (first|refine blk_drewN ?_ _|refine blk_drew ?_|refine blk_alloc ?_ _));exact BK273.out),(by (with_reducible repeat (first|refine blk_drewN ?_ _|refine blk_drew ?_|refine blk_alloc ?_ _));exact BK290.out),GW290.out,GE290.out,NB265_290.out,NB290_265.out,NB273_290.out,NB290_273.out,(by repeat (first|(with_reducible first|exact HB.out|apply below_alloc|apply pw_below_drewN|apply below_drew1|refine below_set ?_ GE265.out|refine below_set ?_ GE273.out|refine below_set ?_ GE290.out)|exact HB.out))⟩)
        rintro ⟨v285,gb290⟩ w123 ⟨hS_,h0_,h1_,h2_,h3_,h4_,h5_,h6_,h7_,h8_,h9_,h10_,h11_,h12_⟩
        have n0_ : Aside0 (Kd.R (Kd.int .i64) 3 w123 w.heap.size (fun _ => True) (.slice Ao118 t277.length co118) t277):=⟨h0_⟩
        have n1_ : Aside0 (Kd.R k62 62 w123 w.heap.size (fun k_ => some k_ ≠ (.slice Ao116 x274000_3.length co116 : Value).ownBlock) v285 t284):=⟨h1_⟩
        have n2_ : Aside0 (Kd.R k62 62 w123 w.heap.size (fun k_ => some k_ ≠ (v285 : Value).ownBlock) (.slice Ao116 x274000_3.length co116) x274000_3):=⟨h2_⟩
        have n3_ : Aside0 (w123.heap[gb265]? = some (.cells #[.int .i64 a0_0,.int .i64 a0_1] 23 (0,0))):=⟨h3_⟩
        have n4_ : Aside0 (w123.heap[gb273]? = some (.cells #[.slice Ao116 x274000_3.length co116,.int .i64 x274001_3,.int .i64 x274002_3] 32 (0,0))):=⟨h4_⟩
        have n5_ : Aside0 (w123.heap[gb290]? = some (.cells #[.slice none 0 0,.int .i64 0,.int .i64 0] 32 (0,0))):=⟨h5_⟩
        have n6_ : Aside0 (w.heap.size ≤ gb290):=⟨h6_⟩
        have n7_ : Aside0 (w.heap.size ≤ gb290):=⟨h7_⟩
        have n8_ : Aside0 (gb265 ≠ gb290):=⟨h8_⟩
        have n9_ : Aside0 (gb290 ≠ gb265):=⟨h9_⟩
        have n10_ : Aside0 (gb273 ≠ gb290):=⟨h10_⟩
        have n11_ : Aside0 (gb290 ≠ gb273):=⟨h11_⟩
        have n12_ : Aside0 (Below w.heap.size w w123):=⟨h12_⟩
        clear HO_274000
        clear HO279
        clear BK265
        clear BK273
        clear HB
        clear h0_ h1_ h2_ h3_ h4_ h5_ h6_ h7_ h8_ h9_ h10_ h11_ h12_
        have HO279:=n0_
        have HO286:=n1_
        have HO_274000:=n2_
        have BK265:=n3_
        have BK273:=n4_
        have BK290:=n5_
        have GW290:=n6_
        have GE290:=n7_
        have NB265_290:=n8_
        have NB290_265:=n9_
        have NB273_290:=n10_
        have NB290_273:=n11_
        have HB:=n12_
        clear n0_ n1_ n2_ n3_ n4_ n5_ n6_ n7_ n8_ n9_ n10_ n11_ n12_
        have hHeld : w123.cell? ⟨gb265,0,none⟩ = some (.int .i64 a0_0)∧w123.cell? ⟨gb265,1,none⟩ = some (.int .i64 a0_1)∧w123.cell? ⟨gb273,0,none⟩ = some (.slice Ao116 x274000_3.length co116)∧w123.cell? ⟨gb273,1,none⟩ = some (.int .i64 x274001_3)∧w123.cell? ⟨gb273,2,none⟩ = some (.int .i64 x274002_3)∧w123.cell? (ad282.add (x14_3).toNat) = some (.int .i64 (rd l2 x14_3))∧w123.cell? (ad283.add (x14_3).toNat) = some (.slice A283_0 (rd_L6 l3 x14_3).length c283_0):=hS_
        obtain ⟨Ao124,co124,eo124⟩:=Kd.R_slice HO286.out
        (first|subst eo124|(injection eo124 with f1_ f2_ f3_;have f4_:=f1_.symm;have f5_:=f3_.symm;clear f1_ f2_ f3_;subst f4_;subst f5_))
        refine norm_ (a':=?_) ?_ ?_
        rotate_left
        ·simp only [putAll,Act.put,setIfInBounds_toArray,set_cons_zero,set_cons_succ]
         rfl
        refine one_ (i:=19) (N:=none) #[true,true,true,true,true,true,true,true,true,true,true,true,true,true,true,true,true,true,true,true,false] rfl rfl (one_of HT_.out (by kernel_rfl)) (by decide) (fun K hK => ?_)
        have hs125 : w123.cell? ⟨gb290,0,none⟩ = some (.slice none 0 0):=(blk_cell BK290.out 0).trans rfl
        have hfs125:=blk_frozen BK290.out 0
        have hns125_0:=NB265_290.out
        have hns125_1:=NB273_290.out
        have hms125_0:=NB290_265.out
        have hms125_1:=NB290_273.out
        have hs126 : w123.cell? ⟨gb290,1,none⟩ = some (.int .i64 0):=(blk_cell BK290.out 1).trans rfl
        have hfs126:=blk_frozen BK290.out 1
        have hns126_0:=NB265_290.out
        have hns126_1:=NB273_290.out
        have hms126_0:=NB290_265.out
        have hms126_1:=NB290_273.out
        have hs127 : w123.cell? ⟨gb290,2,none⟩ = some (.int .i64 0):=(blk_cell BK290.out 2).trans rfl
        have hfs127:=blk_frozen BK290.out 2
        have hns127_0:=NB265_290.out
        have hns127_1:=NB273_290.out
        have hms127_0:=NB290_265.out
        have hms127_1:=NB290_273.out
        refine skip_ (w1:=?_) (by rfl) rfl ?_ ?_
        rotate_left
        ·go_simp
         rfl
        refine hK.out _ _ ⟨((cell_far (p:=⟨gb290,_,none⟩) NB265_290.out _).trans (((cell_far (p:=⟨gb290,_,none⟩) NB265_290.out _).trans (((cell_far (p:=⟨gb290,_,none⟩) NB265_290.out _).trans (hHeld.1)))))),((cell_far (p:=⟨gb290,_,none⟩) NB265_290.out _).trans (((cell_far (p:=⟨gb290,_,none⟩) NB265_290.out _).trans (((cell_far (p:=⟨gb290,_,none⟩) NB265_290.out _).trans (hHeld.2.1)))))),((cell_far (p:=⟨gb290,_,none⟩) NB273_290.out _).trans (((cell_far (p:=⟨gb290,_,none⟩) NB273_290.out _).trans (((cell_far (p:=⟨gb290,_,none⟩) NB273_290.out _).trans (hHeld.2.2.1)))))),((cell_far (p:=⟨gb290,_,none⟩) NB273_290.out _).trans (((cell_far (p:=⟨gb290,_,none⟩) NB273_290.out _).trans (((cell_far (p:=⟨gb290,_,none⟩) NB273_290.out _).trans (hHeld.2.2.2.1)))))),((cell_far (p:=⟨gb290,_,none⟩) NB273_290.out _).trans (((cell_far (p:=⟨gb290,_,none⟩) NB273_290.out _).trans (((cell_far (p:=⟨gb290,_,none⟩) NB273_290.out _).trans (hHeld.2.2.2.2.1)))))),((cell_far (p:=⟨gb290,_,none⟩) (by first|exact Nat.ne_of_lt (Nat.lt_of_lt_of_le (by have:=World.block_lt_of_cell? _ _ hw282_0;first|rwa [add_block] at this|exact this) GW290.out)|(rw [add_block];exact Nat.ne_of_lt (Nat.lt_of_lt_of_le (by have:=World.block_lt_of_cell? _ _ hw282_0;first|rwa [add_block] at this|exact this) GW290.out))|(show (Addr.add _ _).block ≠ _;rw [add_block];exact Nat.ne_of_lt (Nat.lt_of_lt_of_le (by have:=World.block_lt_of_cell? _ _ hw282_0;first|rwa [add_block] at this|exact this) GW290.out))|(dsimp only;exact Nat.ne_of_lt (Nat.lt_of_lt_of_le (by have:=World.block_lt_of_cell? _ _ hw282_0;first|rwa [add_block] at this|exact this) GW290.out))) _).trans (((cell_far (p:=⟨gb290,_,none⟩) (by first|exact Nat.ne_of_lt (Nat.lt_of_lt_of_le (by have:=World.block_lt_of_cell? _ _ hw282_0;first|rwa [add_block] at this|exact this) GW290.out)|(rw [add_block];exact Nat.ne_of_lt (Nat.lt_of_lt_of_le (by have:=World.block_lt_of_cell? _ _ hw282_0;first|rwa [add_block] at this|exact this) GW290.out))|(show (Addr.add _ _).block ≠ _;rw [add_block];exact Nat.ne_of_lt (Nat.lt_of_lt_of_le (by have:=World.block_lt_of_cell? _ _ hw282_0;first|rwa [add_block] at this|exact this) GW290.out))|(dsimp only;exact Nat.ne_of_lt (Nat.lt_of_lt_of_le (by have:=World.block_lt_of_cell? _ _ hw282_0;first|rwa [add_block] at this|exact this) GW290.out))) _).trans (((cell_far (p:=⟨gb290,_,none⟩) (by first|exact Nat.ne_of_lt (Nat.lt_of_lt_of_le (by have:=World.block_lt_of_cell? _ _ hw282_0;first|rwa [add_block] at this|exact this) GW290.out)|(rw [add_block];exact Nat.ne_of_lt (Nat.lt_of_lt_of_le (by have:=World.block_lt_of_cell? _ _ hw282_0;first|rwa [add_block] at this|exact this) GW290.out))|(show (Addr.add _ _).block ≠ _;rw [add_block];exact Nat.ne_of_lt (Nat.lt_of_lt_of_le (by have:=World.block_lt_of_cell? _ _ hw282_0;first|rwa [add_block] at this|exact this) GW290.out))|(dsimp only;exact Nat.ne_of_lt (Nat.lt_of_lt_of_le (by have:=World.block_lt_of_cell? _ _ hw282_0;first|rwa [add_block] at this|exact this) GW290.out))) _).trans (hHeld.2.2.2.2.2.1)))))),((cell_far (p:=⟨gb290,_,none⟩) (by first|exact Nat.ne_of_lt (Nat.lt_of_lt_of_le (by have:=World.block_lt_of_cell? _ _ hw283_0;first|rwa [add_block] at this|exact this) GW290.out)|(rw [add_block];exact Nat.ne_of_lt (Nat.lt_of_lt_of_le (by have:=World.block_lt_of_cell? _ _ hw283_0;first|rwa [add_block] at this|exact this) GW290.out))|(show (Addr.add _ _).block ≠ _;rw [add_block];exact Nat.ne_of_lt (Nat.lt_of_lt_of_le (by have:=World.block_lt_of_cell? _ _ hw283_0;first|rwa [add_block] at this|exact this) GW290.out))|(dsimp only;exact Nat.ne_of_lt (Nat.lt_of_lt_of_le (by have:=World.block_lt_of_cell? _ _ hw283_0;first|rwa [add_block] at this|exact this) GW290.out))) _).trans (((cell_far (p:=⟨gb290,_,none⟩) (by first|exact Nat.ne_of_lt (Nat.lt_of_lt_of_le (by have:=World.block_lt_of_cell? _ _ hw283_0;first|rwa [add_block] at this|exact this) GW290.out)|(rw [add_block];exact Nat.ne_of_lt (Nat.lt_of_lt_of_le (by have:=World.block_lt_of_cell? _ _ hw283_0;first|rwa [add_block] at this|exact this) GW290.out))|(show (Addr.add _ _).block ≠ _;rw [add_block];exact Nat.ne_of_lt (Nat.lt_of_lt_of_le (by have:=World.block_lt_of_cell? _ _ hw283_0;first|rwa [add_block] at this|exact this) GW290.out))|(dsimp only;exact Nat.ne_of_lt (Nat.lt_of_lt_of_le (by have:=World.block_lt_of_cell? _ _ hw283_0;first|rwa [add_block] at this|exact this) GW290.out))) _).trans (((cell_far (p:=⟨gb290,_,none⟩) (by first|exact Nat.ne_of_lt (Nat.lt_of_lt_of_le (by have:=World.block_lt_of_cell? _ _ hw283_0;first|rwa [add_block] at this|exact this) GW290.out)|(rw [add_block];exact Nat.ne_of_lt (Nat.lt_of_lt_of_le (by have:=World.block_lt_of_cell? _ _ hw283_0;first|rwa [add_block] at this|exact this) GW290.out))|(show (Addr.add _ _).block ≠ _;rw [add_block];exact Nat.ne_of_lt (Nat.lt_of_lt_of_le (by have:=World.block_lt_of_cell? _ _ hw283_0;first|rwa [add_block] at this|exact this) GW290.out))|(dsimp only;exact Nat.ne_of_lt (Nat.lt_of_lt_of_le (by have:=World.block_lt_of_cell? _ _ hw283_0;first|rwa [add_block] at this|exact this) GW290.out))) _).trans (hHeld.2.2.2.2.2.2))))))⟩ (fun hHeld => ?_)
        clear hK K
        refine pure_ (i:=20) (N:=some 17) (v:=?_) (a':=?_) #[true,true,true,true,true,true,true,true,true,true,true,true,true,true,true,true,true,true,true,true,true] rfl rfl (any_of HT_.out (by kernel_rfl)) (fun _ _ _ h => h) (Or.inl ⟨by rfl,?_⟩) ?_ ?_
        rotate_left;(intro w';go_simp;with_reducible rfl);rotate_left;(simp only [Act.put,setIfInBounds_toArray,set_cons_zero,set_cons_succ,i64_w,i32_w];rfl)
        refine done_ (done_of HT_.out (by kernel_rfl)) ?_
        have p291 : 0 ≤ (x14_3 : Int):=of_decide_eq_true (by first|(with_reducible assumption)|assumption)
        have q291 : x14_3 < (l3.length : Int):=of_decide_eq_true (by first|(with_reducible assumption)|assumption)
        obtain ⟨ad291,A291_0,c291_0,e291,hx291_0,hl291_0,hi291_0⟩:=at_L6 HR3.out x14_3 p291 q291
        obtain rfl : ad283 = ad291:=(by injection e291)
        have hn291_0 : ad283.block ≠ gb290:=Nat.ne_of_lt (Nat.lt_of_lt_of_le (by have:=World.block_lt_of_cell? _ _ hx291_0;first|rwa [add_block] at this|exact this) GW290.out)
        have hn291_1 : ad283.block ≠ gb290:=Nat.ne_of_lt (Nat.lt_of_lt_of_le (by have:=World.block_lt_of_cell? _ _ hx291_0;first|rwa [add_block] at this|exact this) GW290.out)
        have hn291_2 : ad283.block ≠ gb290:=Nat.ne_of_lt (Nat.lt_of_lt_of_le (by have:=World.block_lt_of_cell? _ _ hx291_0;first|rwa [add_block] at this|exact this) GW290.out)
        replace hx291_0:=(HB.out.cell (World.block_lt_of_cell? w _ hx291_0)).trans hx291_0
        have HR291_0:=Aside0.mk hi291_0
        have HC291_0:=Aside0.mk hl291_0
        clear hi291_0 hl291_0
        replace hx291_0:=(cell_far (p:=⟨gb290,0,none⟩) (by first|(rw [add_block];exact hn291_0)|(show (Addr.add _ _).block ≠ _;rw [add_block];exact hn291_0)|exact hn291_0) (.slice Ao124 t284.length co124)).trans hx291_0
        replace hx291_0:=(cell_far (p:=⟨gb290,1,none⟩) (by first|(rw [add_block];exact hn291_1)|(show (Addr.add _ _).block ≠ _;rw [add_block];exact hn291_1)|exact hn291_1) (.int .i64 t287)).trans hx291_0
        replace hx291_0:=(cell_far (p:=⟨gb290,2,none⟩) (by first|(rw [add_block];exact hn291_2)|(show (Addr.add _ _).block ≠ _;rw [add_block];exact hn291_2)|exact hn291_2) (.int .i64 t288)).trans hx291_0
        clear hn291_0
        clear hn291_1
        clear hn291_2
        replace p291:=eq_true p291
        replace q291:=eq_true q291
        try go_wp2
        go_ret
        exact ⟨by first|rfl|(simp [errW_none,errW_some] <;> rfl)|(simp [*,errW_none,errW_some] <;> rfl),by repeat (first|(with_reducible first|exact HB.out|apply below_alloc|apply pw_below_drewN|apply below_drew1|refine below_set ?_ GE265.out|refine below_set ?_ GE273.out|refine below_set ?_ GE290.out)|exact HB.out)⟩
       rw [if_pos c37] at H
       have c37b0 : (t289 == 0) = true:=beq_iff_eq.mpr c37
       have c37b1 : (t289 != 0) = false:=bne_eq_false_iff_eq.mpr c37
       clear c37
       have H':=Aside0.mk H
       clear H
       have hnb38:=NB273_265.out
       have hnc38:=NB265_273.out
       have hcz39_0 : wr.cell? ⟨gb273,0,none⟩ = some (u274000):=(blk_cell BK273.out 0).trans rfl
       have hcz39_1 : wr.cell? ⟨gb273,1,none⟩ = some (.int .i64 x274001_3):=(blk_cell BK273.out 1).trans rfl
       have hcz39_2 : wr.cell? ⟨gb273,2,none⟩ = some (.int .i64 x274002_3):=(blk_cell BK273.out 2).trans rfl
       have hfz39_0:=blk_frozen BK273.out 0
       have hfz39_1:=blk_frozen BK273.out 1
       have hfz39_2:=blk_frozen BK273.out 2
       obtain ⟨Ao40,co40,eo40⟩:=Kd.R_slice HO_274000.out
       subst eo40
       try go_wp2_with (first|((with_reducible refine gate_callee (f:=22) rfl ?_);refine goesL_ (some 58) rfl rfl Try.func22 (by kernel_rfl) rfl #[.agg #[.slice Ao40 x274000_3.length co40,.int .i64 x274001_3,.int .i64 x274002_3]] rfl (by (try simp only [List.map_toArray,List.map_cons,List.map_nil]);first|done|rfl|(simp only [List.length_drop,List.length_take];rfl)) ?_;(with_reducible refine (leadlag_Running.calls k3 _ _ x274000_3 x274001_3 x274002_3 t277 _ ?side1 ?side2 A32.out).mono ?_);(case side1 => repeat (first|exact (Kd.R_reads' HO_274000.out).2.2|(with_reducible refine Kd.C_alloc ?_ _)|(with_reducible refine Kd.C_drewN ?_ _)|(with_reducible refine Kd.C_drew ?_)));(case side2 => exact (Kd.R_reads' HO_274000.out).2.1);rintro e w41 ⟨v278,rfl,ho0,hb⟩;refine ⟨_,rfl,?_⟩;have n0_:=Aside0.mk (Kd.R_below (by (with_reducible repeat (first|apply Kd.R_alloc|apply Kd.R_drewN|apply Kd.R_drew));exact HO_274000.out) hb);have n1_:=Aside0.mk (Kd.R_lower ho0 (below_size (by repeat (first|(with_reducible first|exact HB.out|apply below_alloc|apply pw_below_drewN|apply below_drew1|refine below_set ?_ GE265.out|refine below_set ?_ GE273.out)|exact HB.out))));have n2_:=Aside0.mk (blk_below (g:=gb265) (o:=.cells #[.int .i64 a0_0,.int .i64 a0_1] 23 (0,0)) (by (with_reducible repeat (first|refine blk_drewN ?_ _|refine blk_drew ?_|refine blk_alloc ?_ _));exact BK265.out) hb);have n3_:=Aside0.mk (blk_below (g:=gb273) (o:=.cells #[.slice Ao40 x274000_3.length co40,.int .i64 x274001_3,.int .i64 x274002_3] 32 (0,0)) (by (with_reducible repeat (first|refine blk_drewN ?_ _|refine blk_drew ?_|refine blk_alloc ?_ _));exact BK273.out) hb);have n4_:=Aside0.mk (below_step (by repeat (first|(with_reducible first|exact HB.out|apply below_alloc|apply pw_below_drewN|apply below_drew1|refine below_set ?_ GE265.out|refine below_set ?_ GE273.out)|exact HB.out)) hb);clear HO_274000;clear BK265;clear BK273;clear HB;have HO_274000:=n0_;have HO279:=n1_;have BK265:=n2_;have BK273:=n3_;have HB:=n4_;clear n0_ n1_ n2_ n3_ n4_;(try clear hb);(try clear hb2);(try clear hk);(try clear hi);(try clear ho0);obtain ⟨Ao42,co42,eo42⟩:=Kd.R_slice HO279.out;subst eo42))
       have n0_:=Aside0.mk (Kd.R_drew HO_274000.out)
       have n1_:=Aside0.mk (Kd.R_drew HO279.out)
       have n2_:=Aside0.mk (blk_drew BK265.out)
       have n3_:=Aside0.mk (blk_drew BK273.out)
       have n4_:=Aside0.mk (below_drew1 HB.out)
       clear HO_274000
       clear HO279
       clear BK265
       clear BK273
       clear HB
       have HO_274000:=n0_
       have HO279:=n1_
       have BK265:=n2_
       have BK273:=n3_
       have HB:=n4_
       clear n0_ n1_ n2_ n3_ n4_
       have p282 : 0 ≤ (x14_3 : Int):=of_decide_eq_true (by first|(with_reducible assumption)|assumption)
       have q282 : x14_3 < (l2.length : Int):=of_decide_eq_true (by first|(with_reducible assumption)|assumption)
       obtain ⟨ad282,e282,hx282_0⟩:=Kd.at_int HR2.out x14_3 p282 q282
       have hw282_0:=hx282_0
       cases e282
       replace hx282_0:=(HB.out.cell (World.block_lt_of_cell? w _ hx282_0)).trans hx282_0
       replace p282:=eq_true p282
       replace q282:=eq_true q282
       have p283 : 0 ≤ (x14_3 : Int):=of_decide_eq_true (by first|(with_reducible assumption)|assumption)
       have q283 : x14_3 < (l3.length : Int):=of_decide_eq_true (by first|(with_reducible assumption)|assumption)
       obtain ⟨ad283,A283_0,c283_0,e283,hx283_0,hl283_0,hi283_0⟩:=at_L6 HR3.out x14_3 p283 q283
       have hw283_0:=hx283_0
       cases e283
       replace hx283_0:=(HB.out.cell (World.block_lt_of_cell? w _ hx283_0)).trans hx283_0
       have HR283_0:=Aside0.mk hi283_0
       have HC283_0:=Aside0.mk hl283_0
       clear hi283_0 hl283_0
       replace p283:=eq_true p283
       replace q283:=eq_true q283
       refine start_ (n:=21) (S:=fun w' => w'.cell? ⟨gb265,0,none⟩ = some (.int .i64 a0_0)∧w'.cell? ⟨gb265,1,none⟩ = some (.int .i64 a0_1)∧w'.cell? ⟨gb273,0,none⟩ = some (.slice Ao40 x274000_3.length co40)∧w'.cell? ⟨gb273,1,none⟩ = some (.int .i64 x274001_3)∧w'.cell? ⟨gb273,2,none⟩ = some (.int .i64 x274002_3)∧w'.cell? (ad282.add (x14_3).toNat) = some (.int .i64 (rd l2 x14_3))∧w'.cell? (ad283.add (x14_3).toNat) = some (.slice A283_0 (rd_L6 l3 x14_3).length c283_0)) (ds:=[]) #[false,false,false,false,false,false,false,false,false,false,false,false,false,false,false,false,false,false,false,false,false] (by kernel_rfl) rfl rfl ⟨(blk_cell BK265.out 0).trans rfl,(blk_cell BK265.out 1).trans rfl,(blk_cell BK273.out 0).trans rfl,(blk_cell BK273.out 1).trans rfl,(blk_cell BK273.out 2).trans rfl,((HB.out.cell (World.block_lt_of_cell? w _ hw282_0)).trans hw282_0),((HB.out.cell (World.block_lt_of_cell? w _ hw283_0)).trans hw283_0)⟩ (fun hHeld => ?_);refine with_tabW limits.tab13 limits.bits13 (fun HT_ HW_ => ?_)
       generalize w41.drew = w43 at HO_274000 HO279 BK265 BK273 HB HR283_0 hx282_0 hx283_0 hHeld ⊢
       refine pure_ (i:=3) (N:=some 64) (v:=?_) (a':=?_) #[false,false,false,true,false,false,false,false,false,false,false,false,false,false,false,false,false,false,false,false,false] rfl rfl (any_of HT_.out (by kernel_rfl)) (fun _ _ _ h => h) (Or.inl ⟨by rfl,?_⟩) ?_ ?_
       rotate_left;(intro w';go_simp;with_reducible rfl);rotate_left;(simp only [Act.put,setIfInBounds_toArray,set_cons_zero,set_cons_succ,i64_w,i32_w];rfl)
       refine pure_ (i:=4) (N:=some 65) (v:=?_) (a':=?_) #[false,false,false,true,true,false,false,false,false,false,false,false,false,false,false,false,false,false,false,false,false] rfl rfl (any_of HT_.out (by kernel_rfl)) (fun _ _ _ h => h) (Or.inl ⟨by rfl,?_⟩) ?_ ?_
       rotate_left;(intro w';go_simp;with_reducible rfl);rotate_left;(simp only [Act.put,setIfInBounds_toArray,set_cons_zero,set_cons_succ,i64_w,i32_w];rfl)
       refine pure_ (i:=5) (N:=some 66) (v:=?_) (a':=?_) #[false,false,false,true,true,true,false,false,false,false,false,false,false,false,false,false,false,false,false,false,false] rfl rfl (any_of HT_.out (by kernel_rfl)) (fun _ _ _ h => h) (Or.inl ⟨by rfl,?_⟩) ?_ ?_
       rotate_left;(intro w';go_simp;with_reducible rfl);rotate_left;(simp only [Act.put,setIfInBounds_toArray,set_cons_zero,set_cons_succ,i64_w,i32_w];rfl)
       refine pure_ (i:=7) (N:=some 68) (v:=?_) (a':=?_) #[false,false,false,true,true,true,false,true,false,false,false,false,false,false,false,false,false,false,false,false,false] rfl rfl (any_of HT_.out (by kernel_rfl)) (fun _ _ _ h => h) (Or.inl ⟨by rfl,?_⟩) ?_ ?_
       rotate_left;(intro w';go_simp;with_reducible rfl);rotate_left;(simp only [Act.put,setIfInBounds_toArray,set_cons_zero,set_cons_succ,i64_w,i32_w];rfl)
       refine pure_ (i:=8) (N:=some 69) (v:=?_) (a':=?_) #[false,false,false,true,true,true,false,true,true,false,false,false,false,false,false,false,false,false,false,false,false] rfl rfl (any_of HT_.out (by kernel_rfl)) (fun _ _ _ h => h) (Or.inl ⟨by rfl,?_⟩) ?_ ?_
       rotate_left;(intro w';go_simp;with_reducible rfl);rotate_left;(simp only [Act.put,setIfInBounds_toArray,set_cons_zero,set_cons_succ,i64_w,i32_w];rfl)
       refine pure_ (i:=9) (N:=some 70) (v:=?_) (a':=?_) #[false,false,false,true,true,true,false,true,true,true,false,false,false,false,false,false,false,false,false,false,false] rfl rfl (any_of HT_.out (by kernel_rfl)) (fun _ _ _ h => h) (Or.inl ⟨by rfl,?_⟩) ?_ ?_
       rotate_left;(intro w';go_simp;with_reducible rfl);rotate_left;(simp only [Act.put,setIfInBounds_toArray,set_cons_zero,set_cons_succ,i64_w,i32_w];rfl)
       refine pure_ (i:=11) (N:=some 72) (v:=?_) (a':=?_) #[false,false,false,true,true,true,false,true,true,true,false,true,false,false,false,false,false,false,false,false,false] rfl rfl (any_of HT_.out (by kernel_rfl)) (fun _ _ _ h => h) (Or.inl ⟨by rfl,?_⟩) ?_ ?_
       rotate_left;(intro w';go_simp;with_reducible rfl);rotate_left;(simp only [Act.put,setIfInBounds_toArray,set_cons_zero,set_cons_succ,i64_w,i32_w];rfl)
       refine pure_ (i:=12) (N:=some 73) (v:=?_) (a':=?_) #[false,false,false,true,true,true,false,true,true,true,false,true,true,false,false,false,false,false,false,false,false] rfl rfl (any_of HT_.out (by kernel_rfl)) (fun _ _ _ h => h) (Or.inl ⟨by rfl,?_⟩) ?_ ?_
       rotate_left;(intro w';go_simp;with_reducible rfl);rotate_left;(simp only [Act.put,setIfInBounds_toArray,set_cons_zero,set_cons_succ,i64_w,i32_w];rfl)
       refine pure_ (i:=13) (N:=some 74) (v:=?_) (a':=?_) #[false,false,false,true,true,true,false,true,true,true,false,true,true,true,false,false,false,false,false,false,false] rfl rfl (any_of HT_.out (by kernel_rfl)) (fun _ _ _ h => h) (Or.inl ⟨by rfl,?_⟩) ?_ ?_
       rotate_left;(intro w';go_simp;with_reducible rfl);rotate_left;(simp only [Act.put,setIfInBounds_toArray,set_cons_zero,set_cons_succ,i64_w,i32_w];rfl)
       refine take_ (i:=0) (N:=some 61) (v:=?_) (a':=?_) #[true,false,false,true,true,true,false,true,true,true,false,true,true,true,false,false,false,false,false,false,false] rfl rfl (take_ofW HT_.out HW_.out (by kernel_rfl)) (fun _ _ _ h => h) (Or.inl ⟨by rfl,?_⟩) hHeld ?_ ?_
       rotate_left;(rintro w' ⟨s0,s1,s2,s3,s4,s5,s6⟩;go_simp;with_reducible rfl);rotate_left;(simp only [Act.put,setIfInBounds_toArray,set_cons_zero,set_cons_succ,i64_w,i32_w];rfl)
       refine take_ (i:=2) (N:=some 63) (v:=?_) (a':=?_) #[true,false,true,true,true,true,false,true,true,true,false,true,true,true,false,false,false,false,false,false,false] rfl rfl (take_ofW HT_.out HW_.out (by kernel_rfl)) (fun _ _ _ h => h) (Or.inl ⟨by rfl,?_⟩) hHeld ?_ ?_
       rotate_left;(rintro w' ⟨s0,s1,s2,s3,s4,s5,s6⟩;go_simp;with_reducible rfl);rotate_left;(simp only [Act.put,setIfInBounds_toArray,set_cons_zero,set_cons_succ,i64_w,i32_w];rfl)
       refine take_ (i:=6) (N:=some 67) (v:=?_) (a':=?_) #[true,false,true,true,true,true,true,true,true,true,false,true,true,true,false,false,false,false,false,false,false] rfl rfl (take_ofW HT_.out HW_.out (by kernel_rfl)) (fun _ _ _ h => h) (Or.inl ⟨by rfl,?_⟩) hHeld ?_ ?_
       rotate_left;(rintro w' ⟨s0,s1,s2,s3,s4,s5,s6⟩;go_simp;with_reducible rfl);rotate_left;(simp only [Act.put,setIfInBounds_toArray,set_cons_zero,set_cons_succ,i64_w,i32_w];rfl)
       refine take_ (i:=10) (N:=some 71) (v:=?_) (a':=?_) #[true,false,true,true,true,true,true,true,true,true,true,true,true,true,false,false,false,false,false,false,false] rfl rfl (take_ofW HT_.out HW_.out (by kernel_rfl)) (fun _ _ _ h => h) (Or.inl ⟨by rfl,?_⟩) hHeld ?_ ?_
       rotate_left;(rintro w' ⟨s0,s1,s2,s3,s4,s5,s6⟩;go_simp;with_reducible rfl);rotate_left;(simp only [Act.put,setIfInBounds_toArray,set_cons_zero,set_cons_succ,i64_w,i32_w];rfl)
       refine join_ (σ:=Value × Nat) 2 #[true,true,true,true,true,true,true,true,true,true,true,true,true,true,true,true,true,true,true,false,false] (fun s_ => [(62,.agg #[.int .i64 t280,.int .i64 t281]),(75,.tuple #[.agg #[s_.1,.int .i64 t287,.int .i64 t288],.int .i64 t289]),(16,.pointer (some ⟨s_.2,0,none⟩)),(60,.tuple #[.agg #[s_.1,.int .i64 t287,.int .i64 t288],.int .i64 t289]),(76,.agg #[s_.1,.int .i64 t287,.int .i64 t288]),(77,.int .i64 t289)]) (fun s_ w' => (w'.cell? ⟨gb265,0,none⟩ = some (.int .i64 a0_0)∧w'.cell? ⟨gb265,1,none⟩ = some (.int .i64 a0_1)∧w'.cell? ⟨gb273,0,none⟩ = some (.slice Ao40 x274000_3.length co40)∧w'.cell? ⟨gb273,1,none⟩ = some (.int .i64 x274001_3)∧w'.cell? ⟨gb273,2,none⟩ = some (.int .i64 x274002_3)∧w'.cell? (ad282.add (x14_3).toNat) = some (.int .i64 (rd l2 x14_3))∧w'.cell? (ad283.add (x14_3).toNat) = some (.slice A283_0 (rd_L6 l3 x14_3).length c283_0))∧(Kd.R (Kd.int .i64) 3 w' w.heap.size (fun _ => True) (.slice Ao42 t277.length co42) t277)∧(Kd.R k62 62 w' w.heap.size (fun k_ => some k_ ≠ (.slice Ao40 x274000_3.length co40 : Value).ownBlock) s_.1 t284)∧(Kd.R k62 62 w' w.heap.size (fun k_ => some k_ ≠ (s_.1 : Value).ownBlock) (.slice Ao40 x274000_3.length co40) x274000_3)∧(w'.heap[gb265]? = some (.cells #[.int .i64 a0_0,.int .i64 a0_1] 23 (0,0)))∧(w'.heap[gb273]? = some (.cells #[.slice Ao40 x274000_3.length co40,.int .i64 x274001_3,.int .i64 x274002_3] 32 (0,0)))∧(w'.heap[s_.2]? = some (.cells #[.slice none 0 0,.int .i64 0,.int .i64 0] 32 (0,0)))∧(w.heap.size ≤ s_.2)∧(w.heap.size ≤ s_.2)∧(gb265 ≠ s_.2)∧(s_.2 ≠ gb265)∧(gb273 ≠ s_.2)∧(s_.2 ≠ gb273)∧(Below w.heap.size w w')) ?_ ?_
       rotate_left
       ·intro hCont
        refine two_ (i:=1) (j:=18) (Ni:=some 62) (Nj:=some 16) #[true,true,true,true,true,true,true,true,true,true,true,true,true,true,false,false,false,false,false,false,false] #[true,false,true,true,true,true,true,true,true,true,true,true,true,true,false,false,false,false,true,false,false] rfl rfl rfl rfl (two_of HT_.out (by kernel_rfl)) (by decide) (by decide) (fun K hK => ?_) (fun K hK => ?_)
        ·skip
         refine goes_ Try.func15 (by kernel_rfl) rfl #[.agg #[.int .i64 a0_0,.int .i64 a0_1]] (by rfl) rfl rfl (by (try simp only [List.map_toArray,List.map_cons,List.map_nil]);first|done|rfl|(simp only [List.length_drop,List.length_take];rfl)) ?_
         with_reducible refine (plenumlaw55_rule.calls a0_0 a0_1 t280 t281 _ A33.out).mono ?_
         rintro e w44 ⟨rfl,hb⟩
         refine ⟨_,rfl,?_⟩
         have n0_:=Aside0.mk (Kd.R_below (by (with_reducible repeat (first|apply Kd.R_alloc|apply Kd.R_drewN|apply Kd.R_drew));exact HO_274000.out) hb)
         have n1_:=Aside0.mk (Kd.R_below (by (with_reducible repeat (first|apply Kd.R_alloc|apply Kd.R_drewN|apply Kd.R_drew));exact HO279.out) hb)
         have n2_:=Aside0.mk (blk_below (g:=gb265) (o:=.cells #[.int .i64 a0_0,.int .i64 a0_1] 23 (0,0)) (by (with_reducible repeat (first|refine blk_drewN ?_ _|refine blk_drew ?_|refine blk_alloc ?_ _));exact BK265.out) hb)
         have n3_:=Aside0.mk (blk_below (g:=gb273) (o:=.cells #[.slice Ao40 x274000_3.length co40,.int .i64 x274001_3,.int .i64 x274002_3] 32 (0,0)) (by (with_reducible repeat (first|refine blk_drewN ?_ _|refine blk_drew ?_|refine blk_alloc ?_ _));exact BK273.out) hb)
         have n4_:=Aside0.mk (below_step (by repeat (first|(with_reducible first|exact HB.out|apply below_alloc|apply pw_below_drewN|apply below_drew1|refine below_set ?_ GE265.out|refine below_set ?_ GE273.out)|exact HB.out)) hb)
         clear HO_274000
         clear HO279
         clear BK265
         clear BK273
         clear HB
         have HO_274000:=n0_
         have HO279:=n1_
         have BK265:=n2_
         have BK273:=n3_
         have HB:=n4_
         clear n0_ n1_ n2_ n3_ n4_
         (try clear hb)
         (try clear hb2)
         (try clear hk)
         (try clear hi)
         refine hK.out _ _ ⟨(blk_cell BK265.out 0).trans rfl,(blk_cell BK265.out 1).trans rfl,(blk_cell BK273.out 0).trans rfl,(blk_cell BK273.out 1).trans rfl,(blk_cell BK273.out 2).trans rfl,((HB.out.cell (World.block_lt_of_cell? w _ hw282_0)).trans hw282_0),((HB.out.cell (World.block_lt_of_cell? w _ hw283_0)).trans hw283_0)⟩ (fun hHeld => ?_)
         clear hK K
         refine norm_ (a':=?_) ?_ ?_
         rotate_left
         ·show Act.put _ (some 62) _ = _
          simp only [Act.put,setIfInBounds_toArray,set_cons_zero,set_cons_succ,i64_w,i32_w]
          rfl
         refine two_ (i:=14) (j:=18) (Ni:=some 75) (Nj:=some 16) #[true,true,true,true,true,true,true,true,true,true,true,true,true,true,true,false,false,false,false,false,false] #[true,true,true,true,true,true,true,true,true,true,true,true,true,true,false,false,false,false,true,false,false] rfl rfl rfl rfl (two_of HT_.out (by kernel_rfl)) (by decide) (by decide) (fun K hK => ?_) (fun K hK => ?_)
         ·skip
          refine goes_ Try.func28 (by kernel_rfl) rfl #[.agg #[.int .i64 t280,.int .i64 t281],.agg #[.slice Ao40 x274000_3.length co40,.int .i64 x274001_3,.int .i64 x274002_3],.int .i64 (rd l2 x14_3),.slice A283_0 (rd_L6 l3 x14_3).length c283_0,.int .i64 (wrap64 (a4 + x14_3))] (by rfl) rfl rfl (by (try simp only [List.map_toArray,List.map_cons,List.map_nil]);first|done|rfl|(simp only [List.length_drop,List.length_take];rfl)) ?_
          with_reducible refine (leadlag_Step.calls k3 t280 t281 _ _ x274000_3 x274001_3 x274002_3 (rd l2 x14_3) _ _ (rd_L6 l3 x14_3) (wrap64 (a4 + x14_3)) t284 t287 t288 t289 _ ?side1 ?side2 ?side3 ?side4 A36.out).mono ?_
          (case side1 => repeat (first|exact (Kd.R_reads' HO_274000.out).2.2|(with_reducible refine Kd.C_alloc ?_ _)|(with_reducible refine Kd.C_drewN ?_ _)|(with_reducible refine Kd.C_drew ?_)))
          (case side2 => exact (Kd.R_reads' HO_274000.out).2.1)
          (case side3 => repeat (first|exact (Kd.C_below HR283_0.out HB.out)|(with_reducible refine Kd.C_alloc ?_ _)|(with_reducible refine Kd.C_drewN ?_ _)|(with_reducible refine Kd.C_drew ?_)))
          (case side4 => exact HC283_0.out)
          rintro e w45 ⟨v285,rfl,ho0,hb⟩
          refine ⟨_,rfl,?_⟩
          have n0_:=Aside0.mk (Kd.R_elder' (by (with_reducible repeat (first|apply Kd.R_alloc|apply Kd.R_drewN|apply Kd.R_drew));exact HO_274000.out) (Kd.R_base ho0) hb)
          have n1_:=Aside0.mk (Kd.R_below (by (with_reducible repeat (first|apply Kd.R_alloc|apply Kd.R_drewN|apply Kd.R_drew));exact HO279.out) hb)
          have n2_:=Aside0.mk (Kd.R_lower (Kd.R_new' ho0 (Kd.R_lt (by (with_reducible repeat (first|apply Kd.R_alloc|apply Kd.R_drewN|apply Kd.R_drew));exact HO_274000.out))) (below_size (by repeat (first|(with_reducible first|exact HB.out|apply below_alloc|apply pw_below_drewN|apply below_drew1|refine below_set ?_ GE265.out|refine below_set ?_ GE273.out)|exact HB.out))))
          have n3_:=Aside0.mk (blk_below (g:=gb265) (o:=.cells #[.int .i64 a0_0,.int .i64 a0_1] 23 (0,0)) (by (with_reducible repeat (first|refine blk_drewN ?_ _|refine blk_drew ?_|refine blk_alloc ?_ _));exact BK265.out) hb)
          have n4_:=Aside0.mk (blk_below (g:=gb273) (o:=.cells #[.slice Ao40 x274000_3.length co40,.int .i64 x274001_3,.int .i64 x274002_3] 32 (0,0)) (by (with_reducible repeat (first|refine blk_drewN ?_ _|refine blk_drew ?_|refine blk_alloc ?_ _));exact BK273.out) hb)
          have n5_:=Aside0.mk (below_step (by repeat (first|(with_reducible first|exact HB.out|apply below_alloc|apply pw_below_drewN|apply below_drew1|refine below_set ?_ GE265.out|refine below_set ?_ GE273.out)|exact HB.out)) hb)
          clear HO_274000
          clear HO279
          clear BK265
          clear BK273
          clear HB
          have HO_274000:=n0_
          have HO279:=n1_
          have HO286:=n2_
          have BK265:=n3_
          have BK273:=n4_
          have HB:=n5_
          clear n0_ n1_ n2_ n3_ n4_ n5_
          (try clear hb)
          (try clear hb2)
          (try clear hk)
          (try clear hi)
          (try clear ho0)
          refine hK.out _ _ ⟨(blk_cell BK265.out 0).trans rfl,(blk_cell BK265.out 1).trans rfl,(blk_cell BK273.out 0).trans rfl,(blk_cell BK273.out 1).trans rfl,(blk_cell BK273.out 2).trans rfl,((HB.out.cell (World.block_lt_of_cell? w _ hw282_0)).trans hw282_0),((HB.out.cell (World.block_lt_of_cell? w _ hw283_0)).trans hw283_0)⟩ (fun hHeld => ?_)
          clear hK K
          refine norm_ (a':=?_) ?_ ?_
          rotate_left
          ·show Act.put _ (some 75) _ = _
           simp only [Act.put,setIfInBounds_toArray,set_cons_zero,set_cons_succ,i64_w,i32_w]
           rfl
          refine pure_ (i:=15) (N:=some 60) (v:=?_) (a':=?_) #[true,true,true,true,true,true,true,true,true,true,true,true,true,true,true,true,false,false,false,false,false] rfl rfl (any_of HT_.out (by kernel_rfl)) (fun _ _ _ h => h) (Or.inl ⟨by rfl,?_⟩) ?_ ?_
          rotate_left;(intro w';go_simp;with_reducible rfl);rotate_left;(simp only [Act.put,setIfInBounds_toArray,set_cons_zero,set_cons_succ,i64_w,i32_w];rfl)
          refine pure_ (i:=16) (N:=some 76) (v:=?_) (a':=?_) #[true,true,true,true,true,true,true,true,true,true,true,true,true,true,true,true,true,false,false,false,false] rfl rfl (any_of HT_.out (by kernel_rfl)) (fun _ _ _ h => h) (Or.inl ⟨by rfl,?_⟩) ?_ ?_
          rotate_left;(intro w';go_simp;with_reducible rfl);rotate_left;(simp only [Act.put,setIfInBounds_toArray,set_cons_zero,set_cons_succ,i64_w,i32_w];rfl)
          refine pure_ (i:=17) (N:=some 77) (v:=?_) (a':=?_) #[true,true,true,true,true,true,true,true,true,true,true,true,true,true,true,true,true,true,false,false,false] rfl rfl (any_of HT_.out (by kernel_rfl)) (fun _ _ _ h => h) (Or.inl ⟨by rfl,?_⟩) ?_ ?_
          rotate_left;(intro w';go_simp;with_reducible rfl);rotate_left;(simp only [Act.put,setIfInBounds_toArray,set_cons_zero,set_cons_succ,i64_w,i32_w];rfl)
          refine one_ (i:=18) (N:=some 16) #[true,true,true,true,true,true,true,true,true,true,true,true,true,true,true,true,true,true,true,false,false] rfl rfl (one_of HT_.out (by kernel_rfl)) (by decide) (fun K hK => ?_)
          refine box_step ?hg (N:=16) ?hd (cs:=#[.slice none 0 0,.int .i64 0,.int .i64 0]) (t:=32) ?hr ?_;(case hd => rfl);(case hg => rfl);(case hr => first|(go_simp;done)|(go_simp;rfl))
          intro gb290 hg w46 hbox hb
          have n0_:=Aside0.mk (Kd.R_below (by (with_reducible repeat (first|apply Kd.R_alloc|apply Kd.R_drewN|apply Kd.R_drew));exact HO_274000.out) hb)
          have n1_:=Aside0.mk (Kd.R_below (by (with_reducible repeat (first|apply Kd.R_alloc|apply Kd.R_drewN|apply Kd.R_drew));exact HO279.out) hb)
          have n2_:=Aside0.mk (Kd.R_below (by (with_reducible repeat (first|apply Kd.R_alloc|apply Kd.R_drewN|apply Kd.R_drew));exact HO286.out) hb)
          have n3_:=Aside0.mk (blk_below (g:=gb265) (o:=.cells #[.int .i64 a0_0,.int .i64 a0_1] 23 (0,0)) (by (with_reducible repeat (first|refine blk_drewN ?_ _|refine blk_drew ?_|refine blk_alloc ?_ _));exact BK265.out) hb)
          have n4_:=Aside0.mk (blk_below (g:=gb273) (o:=.cells #[.slice Ao40 x274000_3.length co40,.int .i64 x274001_3,.int .i64 x274002_3] 32 (0,0)) (by (with_reducible repeat (first|refine blk_drewN ?_ _|refine blk_drew ?_|refine blk_alloc ?_ _));exact BK273.out) hb)
          have n5_:=Aside0.mk (below_step (by repeat (first|(with_reducible first|exact HB.out|apply below_alloc|apply pw_below_drewN|apply below_drew1|refine below_set ?_ GE265.out|refine below_set ?_ GE273.out)|exact HB.out)) hb)
          have n6_:=Aside0.mk (hbox)
          have n7_:=Aside0.mk ((by rw [hg];exact (below_size (by repeat (first|(with_reducible first|exact HB.out|apply below_alloc|apply pw_below_drewN|apply below_drew1|refine below_set ?_ GE265.out|refine below_set ?_ GE273.out)|exact HB.out))) : w.heap.size ≤ gb290))
          have n8_:=Aside0.mk ((by rw [hg];exact (below_size (by repeat (first|(with_reducible first|exact HB.out|apply below_alloc|apply pw_below_drewN|apply below_drew1|refine below_set ?_ GE265.out|refine below_set ?_ GE273.out)|exact HB.out))) : w.heap.size ≤ gb290))
          have n9_:=Aside0.mk ((by rw [hg];exact Nat.ne_of_lt (blk_lt (g:=gb265) (o:=.cells #[.int .i64 a0_0,.int .i64 a0_1] 23 (0,0)) (by (with_reducible repeat (first|refine blk_drewN ?_ _|refine blk_drew ?_|refine blk_alloc ?_ _));exact BK265.out)) : gb265 ≠ gb290))
          have n10_:=Aside0.mk ((by rw [hg];exact Nat.ne_of_gt (blk_lt (g:=gb265) (o:=.cells #[.int .i64 a0_0,.int .i64 a0_1] 23 (0,0)) (by (with_reducible repeat (first|refine blk_drewN ?_ _|refine blk_drew ?_|refine blk_alloc ?_ _));exact BK265.out)) : gb290 ≠ gb265))
          have n11_:=Aside0.mk ((by rw [hg];exact Nat.ne_of_lt (blk_lt (g:=gb273) (o:=.cells #[.slice Ao40 x274000_3.length co40,.int .i64 x274001_3,.int .i64 x274002_3] 32 (0,0)) (by (with_reducible repeat (first|refine blk_drewN ?_ _|refine blk_drew ?_|refine blk_alloc ?_ _));exact BK273.out)) : gb273 ≠ gb290))
          have n12_:=Aside0.mk ((by rw [hg];exact Nat.ne_of_gt (blk_lt (g:=gb273) (o:=.cells #[.slice Ao40 x274000_3.length co40,.int .i64 x274001_3,.int .i64 x274002_3] 32 (0,0)) (by (with_reducible repeat (first|refine blk_drewN ?_ _|refine blk_drew ?_|refine blk_alloc ?_ _));exact BK273.out)) : gb290 ≠ gb273))
          clear HO_274000
          clear HO279
          clear HO286
          clear BK265
          clear BK273
          clear HB
          have HO_274000:=n0_
          have HO279:=n1_
          have HO286:=n2_
          have BK265:=n3_
          have BK273:=n4_
          have HB:=n5_
          have BK290:=n6_
          have GW290:=n7_
          have GE290:=n8_
          have NB265_290:=n9_
          have NB290_265:=n10_
          have NB273_290:=n11_
          have NB290_273:=n12_
          clear n0_ n1_ n2_ n3_ n4_ n5_ n6_ n7_ n8_ n9_ n10_ n11_ n12_
          clear hb hbox hg
          refine hK.out _ _ ⟨(blk_cell BK265.out 0).trans rfl,(blk_cell BK265.out 1).trans rfl,(blk_cell BK273.out 0).trans rfl,(blk_cell BK273.out 1).trans rfl,(blk_cell BK273.out 2).trans rfl,((HB.out.cell (World.block_lt_of_cell? w _ hw282_0)).trans hw282_0),((HB.out.cell (World.block_lt_of_cell? w _ hw283_0)).trans hw283_0)⟩ (fun hHeld => ?_)
          clear hK K
          refine norm_ (a':=?_) ?_ ?_
          rotate_left
          ·show Act.put _ (some 16) _ = _
           simp only [Act.put,setIfInBounds_toArray,set_cons_zero,set_cons_succ,i64_w,i32_w]
           rfl
          exact norm_ (by simp only [putAll,Act.put,setIfInBounds_toArray,set_cons_zero,set_cons_succ]) (hCont (v285,gb290) _ ⟨hHeld,(by (with_reducible repeat (first|apply Kd.R_alloc|apply Kd.R_drewN|apply Kd.R_drew));exact HO279.out),(by (with_reducible repeat (first|apply Kd.R_alloc|apply Kd.R_drewN|apply Kd.R_drew));exact Kd.R_mono HO286.out (fun _ hk => hk.2)),(by (with_reducible repeat (first|apply Kd.R_alloc|apply Kd.R_drewN|apply Kd.R_drew));exact Kd.R_mono HO_274000.out (fun _ hk => hk.2)),(by (with_reducible repeat (first|refine blk_drewN ?_ _|refine blk_drew ?_|refine blk_alloc ?_ _));exact BK265.out),(by (with_reducible repeat (first|refine blk_drewN ?_ _|refine blk_drew ?_|refine blk_alloc ?_ _));exact BK273.out),(by (with_reducible repeat (first|refine blk_drewN ?_ _|refine blk_drew ?_|refine blk_alloc ?_ _));exact BK290.out),GW290.out,GE290.out,NB265_290.out,NB290_265.out,NB273_290.out,NB290_273.out,(by repeat (first|(with_reducible first|exact HB.out|apply below_alloc|apply pw_below_drewN|apply below_drew1|refine below_set ?_ GE265.out|refine below_set ?_ GE273.out|refine below_set ?_ GE290.out)|exact HB.out))⟩)
         ·skip
          refine box_step ?hg (N:=16) ?hd (cs:=#[.slice none 0 0,.int .i64 0,.int .i64 0]) (t:=32) ?hr ?_;(case hd => rfl);(case hg => rfl);(case hr => first|(go_simp;done)|(go_simp;rfl))
          intro gb290 hg w45 hbox hb
          have n0_:=Aside0.mk (Kd.R_below (by (with_reducible repeat (first|apply Kd.R_alloc|apply Kd.R_drewN|apply Kd.R_drew));exact HO_274000.out) hb)
          have n1_:=Aside0.mk (Kd.R_below (by (with_reducible repeat (first|apply Kd.R_alloc|apply Kd.R_drewN|apply Kd.R_drew));exact HO279.out) hb)
          have n2_:=Aside0.mk (blk_below (g:=gb265) (o:=.cells #[.int .i64 a0_0,.int .i64 a0_1] 23 (0,0)) (by (with_reducible repeat (first|refine blk_drewN ?_ _|refine blk_drew ?_|refine blk_alloc ?_ _));exact BK265.out) hb)
          have n3_:=Aside0.mk (blk_below (g:=gb273) (o:=.cells #[.slice Ao40 x274000_3.length co40,.int .i64 x274001_3,.int .i64 x274002_3] 32 (0,0)) (by (with_reducible repeat (first|refine blk_drewN ?_ _|refine blk_drew ?_|refine blk_alloc ?_ _));exact BK273.out) hb)
          have n4_:=Aside0.mk (below_step (by repeat (first|(with_reducible first|exact HB.out|apply below_alloc|apply pw_below_drewN|apply below_drew1|refine below_set ?_ GE265.out|refine below_set ?_ GE273.out)|exact HB.out)) hb)
          have n5_:=Aside0.mk (hbox)
          have n6_:=Aside0.mk ((by rw [hg];exact (below_size (by repeat (first|(with_reducible first|exact HB.out|apply below_alloc|apply pw_below_drewN|apply below_drew1|refine below_set ?_ GE265.out|refine below_set ?_ GE273.out)|exact HB.out))) : w.heap.size ≤ gb290))
          have n7_:=Aside0.mk ((by rw [hg];exact (below_size (by repeat (first|(with_reducible first|exact HB.out|apply below_alloc|apply pw_below_drewN|apply below_drew1|refine below_set ?_ GE265.out|refine below_set ?_ GE273.out)|exact HB.out))) : w.heap.size ≤ gb290))
          have n8_:=Aside0.mk ((by rw [hg];exact Nat.ne_of_lt (blk_lt (g:=gb265) (o:=.cells #[.int .i64 a0_0,.int .i64 a0_1] 23 (0,0)) (by (with_reducible repeat (first|refine blk_drewN ?_ _|refine blk_drew ?_|refine blk_alloc ?_ _));exact BK265.out)) : gb265 ≠ gb290))
          have n9_:=Aside0.mk ((by rw [hg];exact Nat.ne_of_gt (blk_lt (g:=gb265) (o:=.cells #[.int .i64 a0_0,.int .i64 a0_1] 23 (0,0)) (by (with_reducible repeat (first|refine blk_drewN ?_ _|refine blk_drew ?_|refine blk_alloc ?_ _));exact BK265.out)) : gb290 ≠ gb265))
          have n10_:=Aside0.mk ((by rw [hg];exact Nat.ne_of_lt (blk_lt (g:=gb273) (o:=.cells #[.slice Ao40 x274000_3.length co40,.int .i64 x274001_3,.int .i64 x274002_3] 32 (0,0)) (by (with_reducible repeat (first|refine blk_drewN ?_ _|refine blk_drew ?_|refine blk_alloc ?_ _));exact BK273.out)) : gb273 ≠ gb290))
          have n11_:=Aside0.mk ((by rw [hg];exact Nat.ne_of_gt (blk_lt (g:=gb273) (o:=.cells #[.slice Ao40 x274000_3.length co40,.int .i64 x274001_3,.int .i64 x274002_3] 32 (0,0)) (by (with_reducible repeat (first|refine blk_drewN ?_ _|refine blk_drew ?_|refine blk_alloc ?_ _));exact BK273.out)) : gb290 ≠ gb273))
          clear HO_274000
          clear HO279
          clear BK265
          clear BK273
          clear HB
          have HO_274000:=n0_
          have HO279:=n1_
          have BK265:=n2_
          have BK273:=n3_
          have HB:=n4_
          have BK290:=n5_
          have GW290:=n6_
          have GE290:=n7_
          have NB265_290:=n8_
          have NB290_265:=n9_
          have NB273_290:=n10_
          have NB290_273:=n11_
          clear n0_ n1_ n2_ n3_ n4_ n5_ n6_ n7_ n8_ n9_ n10_ n11_
          clear hb hbox hg
          refine hK.out _ _ ⟨(blk_cell BK265.out 0).trans rfl,(blk_cell BK265.out 1).trans rfl,(blk_cell BK273.out 0).trans rfl,(blk_cell BK273.out 1).trans rfl,(blk_cell BK273.out 2).trans rfl,((HB.out.cell (World.block_lt_of_cell? w _ hw282_0)).trans hw282_0),((HB.out.cell (World.block_lt_of_cell? w _ hw283_0)).trans hw283_0)⟩ (fun hHeld => ?_)
          clear hK K
          refine norm_ (a':=?_) ?_ ?_
          rotate_left
          ·show Act.put _ (some 16) _ = _
           simp only [Act.put,setIfInBounds_toArray,set_cons_zero,set_cons_succ,i64_w,i32_w]
           rfl
          refine one_ (i:=14) (N:=some 75) #[true,true,true,true,true,true,true,true,true,true,true,true,true,true,true,false,false,false,true,false,false] rfl rfl (one_of HT_.out (by kernel_rfl)) (by decide) (fun K hK => ?_)
          refine goes_ Try.func28 (by kernel_rfl) rfl #[.agg #[.int .i64 t280,.int .i64 t281],.agg #[.slice Ao40 x274000_3.length co40,.int .i64 x274001_3,.int .i64 x274002_3],.int .i64 (rd l2 x14_3),.slice A283_0 (rd_L6 l3 x14_3).length c283_0,.int .i64 (wrap64 (a4 + x14_3))] (by rfl) rfl rfl (by (try simp only [List.map_toArray,List.map_cons,List.map_nil]);first|done|rfl|(simp only [List.length_drop,List.length_take];rfl)) ?_
          with_reducible refine (leadlag_Step.calls k3 t280 t281 _ _ x274000_3 x274001_3 x274002_3 (rd l2 x14_3) _ _ (rd_L6 l3 x14_3) (wrap64 (a4 + x14_3)) t284 t287 t288 t289 _ ?side1 ?side2 ?side3 ?side4 A36.out).mono ?_
          (case side1 => repeat (first|exact (Kd.R_reads' HO_274000.out).2.2|(with_reducible refine Kd.C_alloc ?_ _)|(with_reducible refine Kd.C_drewN ?_ _)|(with_reducible refine Kd.C_drew ?_)))
          (case side2 => exact (Kd.R_reads' HO_274000.out).2.1)
          (case side3 => repeat (first|exact (Kd.C_below HR283_0.out HB.out)|(with_reducible refine Kd.C_alloc ?_ _)|(with_reducible refine Kd.C_drewN ?_ _)|(with_reducible refine Kd.C_drew ?_)))
          (case side4 => exact HC283_0.out)
          rintro e w46 ⟨v285,rfl,ho0,hb⟩
          refine ⟨_,rfl,?_⟩
          have n0_:=Aside0.mk (Kd.R_elder' (by (with_reducible repeat (first|apply Kd.R_alloc|apply Kd.R_drewN|apply Kd.R_drew));exact HO_274000.out) (Kd.R_base ho0) hb)
          have n1_:=Aside0.mk (Kd.R_below (by (with_reducible repeat (first|apply Kd.R_alloc|apply Kd.R_drewN|apply Kd.R_drew));exact HO279.out) hb)
          have n2_:=Aside0.mk (Kd.R_lower (Kd.R_new' ho0 (Kd.R_lt (by (with_reducible repeat (first|apply Kd.R_alloc|apply Kd.R_drewN|apply Kd.R_drew));exact HO_274000.out))) (below_size (by repeat (first|(with_reducible first|exact HB.out|apply below_alloc|apply pw_below_drewN|apply below_drew1|refine below_set ?_ GE265.out|refine below_set ?_ GE273.out|refine below_set ?_ GE290.out)|exact HB.out))))
          have n3_:=Aside0.mk (blk_below (g:=gb265) (o:=.cells #[.int .i64 a0_0,.int .i64 a0_1] 23 (0,0)) (by (with_reducible repeat (first|refine blk_drewN ?_ _|refine blk_drew ?_|refine blk_alloc ?_ _));exact BK265.out) hb)
          have n4_:=Aside0.mk (blk_below (g:=gb273) (o:=.cells #[.slice Ao40 x274000_3.length co40,.int .i64 x274001_3,.int .i64 x274002_3] 32 (0,0)) (by (with_reducible repeat (first|refine blk_drewN ?_ _|refine blk_drew ?_|refine blk_alloc ?_ _));exact BK273.out) hb)
          have n5_:=Aside0.mk (blk_below (g:=gb290) (o:=.cells #[.slice none 0 0,.int .i64 0,.int .i64 0] 32 (0,0)) (by (with_reducible repeat (first|refine blk_drewN ?_ _|refine blk_drew ?_|refine blk_alloc ?_ _));exact BK290.out) hb)
          have n6_:=Aside0.mk (below_step (by repeat (first|(with_reducible first|exact HB.out|apply below_alloc|apply pw_below_drewN|apply below_drew1|refine below_set ?_ GE265.out|refine below_set ?_ GE273.out|refine below_set ?_ GE290.out)|exact HB.out)) hb)
          clear HO_274000
          clear HO279
          clear BK265
          clear BK273
          clear BK290
          clear HB
          have HO_274000:=n0_
          have HO279:=n1_
          have HO286:=n2_
          have BK265:=n3_
          have BK273:=n4_
          have BK290:=n5_
          have HB:=n6_
          clear n0_ n1_ n2_ n3_ n4_ n5_ n6_
          (try clear hb)
          (try clear hb2)
          (try clear hk)
          (try clear hi)
          (try clear ho0)
          refine hK.out _ _ ⟨(blk_cell BK265.out 0).trans rfl,(blk_cell BK265.out 1).trans rfl,(blk_cell BK273.out 0).trans rfl,(blk_cell BK273.out 1).trans rfl,(blk_cell BK273.out 2).trans rfl,((HB.out.cell (World.block_lt_of_cell? w _ hw282_0)).trans hw282_0),((HB.out.cell (World.block_lt_of_cell? w _ hw283_0)).trans hw283_0)⟩ (fun hHeld => ?_)
          clear hK K
          refine norm_ (a':=?_) ?_ ?_
          rotate_left
          ·show Act.put _ (some 75) _ = _
           simp only [Act.put,setIfInBounds_toArray,set_cons_zero,set_cons_succ,i64_w,i32_w]
           rfl
          refine pure_ (i:=15) (N:=some 60) (v:=?_) (a':=?_) #[true,true,true,true,true,true,true,true,true,true,true,true,true,true,true,true,false,false,true,false,false] rfl rfl (any_of HT_.out (by kernel_rfl)) (fun _ _ _ h => h) (Or.inl ⟨by rfl,?_⟩) ?_ ?_
          rotate_left;(intro w';go_simp;with_reducible rfl);rotate_left;(simp only [Act.put,setIfInBounds_toArray,set_cons_zero,set_cons_succ,i64_w,i32_w];rfl)
          refine pure_ (i:=16) (N:=some 76) (v:=?_) (a':=?_) #[true,true,true,true,true,true,true,true,true,true,true,true,true,true,true,true,true,false,true,false,false] rfl rfl (any_of HT_.out (by kernel_rfl)) (fun _ _ _ h => h) (Or.inl ⟨by rfl,?_⟩) ?_ ?_
          rotate_left;(intro w';go_simp;with_reducible rfl);rotate_left;(simp only [Act.put,setIfInBounds_toArray,set_cons_zero,set_cons_succ,i64_w,i32_w];rfl)
          refine pure_ (i:=17) (N:=some 77) (v:=?_) (a':=?_) #[true,true,true,true,true,true,true,true,true,true,true,true,true,true,true,true,true,true,true,false,false] rfl rfl (any_of HT_.out (by kernel_rfl)) (fun _ _ _ h => h) (Or.inl ⟨by rfl,?_⟩) ?_ ?_
          rotate_left;(intro w';go_simp;with_reducible rfl);rotate_left;(simp only [Act.put,setIfInBounds_toArray,set_cons_zero,set_cons_succ,i64_w,i32_w];rfl)
          exact norm_ (by simp only [putAll,Act.put,setIfInBounds_toArray,set_cons_zero,set_cons_succ]) (hCont (v285,gb290) _ ⟨hHeld,(by (with_reducible repeat (first|apply Kd.R_alloc|apply Kd.R_drewN|apply Kd.R_drew));exact HO279.out),(by (with_reducible repeat (first|apply Kd.R_alloc|apply Kd.R_drewN|apply Kd.R_drew));exact Kd.R_mono HO286.out (fun _ hk => hk.2)),(by (with_reducible repeat (first|apply Kd.R_alloc|apply Kd.R_drewN|apply Kd.R_drew));exact Kd.R_mono HO_274000.out (fun _ hk => hk.2)),(by (with_reducible repeat (first|refine blk_drewN ?_ _|refine blk_drew ?_|refine blk_alloc ?_ _));exact BK265.out),(by (with_reducible repeat (first|refine blk_drewN ?_ _|refine blk_drew ?_|refine blk_alloc ?_ _));exact BK273.out),(by (with_reducible repeat (first|refine blk_drewN ?_ _|refine blk_drew ?_|refine blk_alloc ?_ _));exact BK290.out),GW290.out,GE290.out,NB265_290.out,NB290_265.out,NB273_290.out,NB290_273.out,(by repeat (first|(with_reducible first|exact HB.out|apply below_alloc|apply pw_below_drewN|apply below_drew1|refine below_set ?_ GE265.out|refine below_set ?_ GE273.out|refine below_set ?_ GE290.out)|exact HB.out))⟩)
        ·skip
         refine box_step ?hg (N:=16) ?hd (cs:=#[.slice none 0 0,.int .i64 0,.int .i64 0]) (t:=32) ?hr ?_;(case hd => rfl);(case hg => rfl);(case hr => first|(go_simp;done)|(go_simp;rfl))
         intro gb290 hg w44 hbox hb
         have n0_:=Aside0.mk (Kd.R_below (by (with_reducible repeat (first|apply Kd.R_alloc|apply Kd.R_drewN|apply Kd.R_drew));exact HO_274000.out) hb)
         have n1_:=Aside0.mk (Kd.R_below (by (with_reducible repeat (first|apply Kd.R_alloc|apply Kd.R_drewN|apply Kd.R_drew));exact HO279.out) hb)
         have n2_:=Aside0.mk (blk_below (g:=gb265) (o:=.cells #[.int .i64 a0_0,.int .i64 a0_1] 23 (0,0)) (by (with_reducible repeat (first|refine blk_drewN ?_ _|refine blk_drew ?_|refine blk_alloc ?_ _));exact BK265.out) hb)
         have n3_:=Aside0.mk (blk_below (g:=gb273) (o:=.cells #[.slice Ao40 x274000_3.length co40,.int .i64 x274001_3,.int .i64 x274002_3] 32 (0,0)) (by (with_reducible repeat (first|refine blk_drewN ?_ _|refine blk_drew ?_|refine blk_alloc ?_ _));exact BK273.out) hb)
         have n4_:=Aside0.mk (below_step (by repeat (first|(with_reducible first|exact HB.out|apply below_alloc|apply pw_below_drewN|apply below_drew1|refine below_set ?_ GE265.out|refine below_set ?_ GE273.out)|exact HB.out)) hb)
         have n5_:=Aside0.mk (hbox)
         have n6_:=Aside0.mk ((by rw [hg];exact (below_size (by repeat (first|(with_reducible first|exact HB.out|apply below_alloc|apply pw_below_drewN|apply below_drew1|refine below_set ?_ GE265.out|refine below_set ?_ GE273.out)|exact HB.out))) : w.heap.size ≤ gb290))
         have n7_:=Aside0.mk ((by rw [hg];exact (below_size (by repeat (first|(with_reducible first|exact HB.out|apply below_alloc|apply pw_below_drewN|apply below_drew1|refine below_set ?_ GE265.out|refine below_set ?_ GE273.out)|exact HB.out))) : w.heap.size ≤ gb290))
         have n8_:=Aside0.mk ((by rw [hg];exact Nat.ne_of_lt (blk_lt (g:=gb265) (o:=.cells #[.int .i64 a0_0,.int .i64 a0_1] 23 (0,0)) (by (with_reducible repeat (first|refine blk_drewN ?_ _|refine blk_drew ?_|refine blk_alloc ?_ _));exact BK265.out)) : gb265 ≠ gb290))
         have n9_:=Aside0.mk ((by rw [hg];exact Nat.ne_of_gt (blk_lt (g:=gb265) (o:=.cells #[.int .i64 a0_0,.int .i64 a0_1] 23 (0,0)) (by (with_reducible repeat (first|refine blk_drewN ?_ _|refine blk_drew ?_|refine blk_alloc ?_ _));exact BK265.out)) : gb290 ≠ gb265))
         have n10_:=Aside0.mk ((by rw [hg];exact Nat.ne_of_lt (blk_lt (g:=gb273) (o:=.cells #[.slice Ao40 x274000_3.length co40,.int .i64 x274001_3,.int .i64 x274002_3] 32 (0,0)) (by (with_reducible repeat (first|refine blk_drewN ?_ _|refine blk_drew ?_|refine blk_alloc ?_ _));exact BK273.out)) : gb273 ≠ gb290))
         have n11_:=Aside0.mk ((by rw [hg];exact Nat.ne_of_gt (blk_lt (g:=gb273) (o:=.cells #[.slice Ao40 x274000_3.length co40,.int .i64 x274001_3,.int .i64 x274002_3] 32 (0,0)) (by (with_reducible repeat (first|refine blk_drewN ?_ _|refine blk_drew ?_|refine blk_alloc ?_ _));exact BK273.out)) : gb290 ≠ gb273))
         clear HO_274000
         clear HO279
         clear BK265
         clear BK273
         clear HB
         have HO_274000:=n0_
         have HO279:=n1_
         have BK265:=n2_
         have BK273:=n3_
         have HB:=n4_
         have BK290:=n5_
         have GW290:=n6_
         have GE290:=n7_
         have NB265_290:=n8_
         have NB290_265:=n9_
         have NB273_290:=n10_
         have NB290_273:=n11_
         clear n0_ n1_ n2_ n3_ n4_ n5_ n6_ n7_ n8_ n9_ n10_ n11_
         clear hb hbox hg
         refine hK.out _ _ ⟨(blk_cell BK265.out 0).trans rfl,(blk_cell BK265.out 1).trans rfl,(blk_cell BK273.out 0).trans rfl,(blk_cell BK273.out 1).trans rfl,(blk_cell BK273.out 2).trans rfl,((HB.out.cell (World.block_lt_of_cell? w _ hw282_0)).trans hw282_0),((HB.out.cell (World.block_lt_of_cell? w _ hw283_0)).trans hw283_0)⟩ (fun hHeld => ?_)
         clear hK K
         refine norm_ (a':=?_) ?_ ?_
         rotate_left
         ·show Act.put _ (some 16) _ = _
          simp only [Act.put,setIfInBounds_toArray,set_cons_zero,set_cons_succ,i64_w,i32_w]
          rfl
         refine one_ (i:=1) (N:=some 62) #[true,true,true,true,true,true,true,true,true,true,true,true,true,true,false,false,false,false,true,false,false] rfl rfl (one_of HT_.out (by kernel_rfl)) (by decide) (fun K hK => ?_)
         refine goes_ Try.func15 (by kernel_rfl) rfl #[.agg #[.int .i64 a0_0,.int .i64 a0_1]] (by rfl) rfl rfl (by (try simp only [List.map_toArray,List.map_cons,List.map_nil]);first|done|rfl|(simp only [List.length_drop,List.length_take];rfl)) ?_
         with_reducible refine (plenumlaw55_rule.calls a0_0 a0_1 t280 t281 _ A33.out).mono ?_
         rintro e w45 ⟨rfl,hb⟩
         refine ⟨_,rfl,?_⟩
         have n0_:=Aside0.mk (Kd.R_below (by (with_reducible repeat (first|apply Kd.R_alloc|apply Kd.R_drewN|apply Kd.R_drew));exact HO_274000.out) hb)
         have n1_:=Aside0.mk (Kd.R_below (by (with_reducible repeat (first|apply Kd.R_alloc|apply Kd.R_drewN|apply Kd.R_drew));exact HO279.out) hb)
         have n2_:=Aside0.mk (blk_below (g:=gb265) (o:=.cells #[.int .i64 a0_0,.int .i64 a0_1] 23 (0,0)) (by (with_reducible repeat (first|refine blk_drewN ?_ _|refine blk_drew ?_|refine blk_alloc ?_ _));exact BK265.out) hb)
         have n3_:=Aside0.mk (blk_below (g:=gb273) (o:=.cells #[.slice Ao40 x274000_3.length co40,.int .i64 x274001_3,.int .i64 x274002_3] 32 (0,0)) (by (with_reducible repeat (first|refine blk_drewN ?_ _|refine blk_drew ?_|refine blk_alloc ?_ _));exact BK273.out) hb)
         have n4_:=Aside0.mk (blk_below (g:=gb290) (o:=.cells #[.slice none 0 0,.int .i64 0,.int .i64 0] 32 (0,0)) (by (with_reducible repeat (first|refine blk_drewN ?_ _|refine blk_drew ?_|refine blk_alloc ?_ _));exact BK290.out) hb)
         have n5_:=Aside0.mk (below_step (by repeat (first|(with_reducible first|exact HB.out|apply below_alloc|apply pw_below_drewN|apply below_drew1|refine below_set ?_ GE265.out|refine below_set ?_ GE273.out|refine below_set ?_ GE290.out)|exact HB.out)) hb)
         clear HO_274000
         clear HO279
         clear BK265
         clear BK273
         clear BK290
         clear HB
         have HO_274000:=n0_
         have HO279:=n1_
         have BK265:=n2_
         have BK273:=n3_
         have BK290:=n4_
         have HB:=n5_
         clear n0_ n1_ n2_ n3_ n4_ n5_
         (try clear hb)
         (try clear hb2)
         (try clear hk)
         (try clear hi)
         refine hK.out _ _ ⟨(blk_cell BK265.out 0).trans rfl,(blk_cell BK265.out 1).trans rfl,(blk_cell BK273.out 0).trans rfl,(blk_cell BK273.out 1).trans rfl,(blk_cell BK273.out 2).trans rfl,((HB.out.cell (World.block_lt_of_cell? w _ hw282_0)).trans hw282_0),((HB.out.cell (World.block_lt_of_cell? w _ hw283_0)).trans hw283_0)⟩ (fun hHeld => ?_)
         clear hK K
         refine norm_ (a':=?_) ?_ ?_
         rotate_left
         ·show Act.put _ (some 62) _ = _
          simp only [Act.put,setIfInBounds_toArray,set_cons_zero,set_cons_succ,i64_w,i32_w]
          rfl
         refine one_ (i:=14) (N:=some 75) #[true,true,true,true,true,true,true,true,true,true,true,true,true,true,true,false,false,false,true,false,false] rfl rfl (one_of HT_.out (by kernel_rfl)) (by decide) (fun K hK => ?_)
         refine goes_ Try.func28 (by kernel_rfl) rfl #[.agg #[.int .i64 t280,.int .i64 t281],.agg #[.slice Ao40 x274000_3.length co40,.int .i64 x274001_3,.int .i64 x274002_3],.int .i64 (rd l2 x14_3),.slice A283_0 (rd_L6 l3 x14_3).length c283_0,.int .i64 (wrap64 (a4 + x14_3))] (by rfl) rfl rfl (by (try simp only [List.map_toArray,List.map_cons,List.map_nil]);first|done|rfl|(simp only [List.length_drop,List.length_take];rfl)) ?_
         with_reducible refine (leadlag_Step.calls k3 t280 t281 _ _ x274000_3 x274001_3 x274002_3 (rd l2 x14_3) _ _ (rd_L6 l3 x14_3) (wrap64 (a4 + x14_3)) t284 t287 t288 t289 _ ?side1 ?side2 ?side3 ?side4 A36.out).mono ?_
         (case side1 => repeat (first|exact (Kd.R_reads' HO_274000.out).2.2|(with_reducible refine Kd.C_alloc ?_ _)|(with_reducible refine Kd.C_drewN ?_ _)|(with_reducible refine Kd.C_drew ?_)))
         (case side2 => exact (Kd.R_reads' HO_274000.out).2.1)
         (case side3 => repeat (first|exact (Kd.C_below HR283_0.out HB.out)|(with_reducible refine Kd.C_alloc ?_ _)|(with_reducible refine Kd.C_drewN ?_ _)|(with_reducible refine Kd.C_drew ?_)))
         (case side4 => exact HC283_0.out)
         rintro e w46 ⟨v285,rfl,ho0,hb⟩
         refine ⟨_,rfl,?_⟩
         have n0_:=Aside0.mk (Kd.R_elder' (by (with_reducible repeat (first|apply Kd.R_alloc|apply Kd.R_drewN|apply Kd.R_drew));exact HO_274000.out) (Kd.R_base ho0) hb)
         have n1_:=Aside0.mk (Kd.R_below (by (with_reducible repeat (first|apply Kd.R_alloc|apply Kd.R_drewN|apply Kd.R_drew));exact HO279.out) hb)
         have n2_:=Aside0.mk (Kd.R_lower (Kd.R_new' ho0 (Kd.R_lt (by (with_reducible repeat (first|apply Kd.R_alloc|apply Kd.R_drewN|apply Kd.R_drew));exact HO_274000.out))) (below_size (by repeat (first|(with_reducible first|exact HB.out|apply below_alloc|apply pw_below_drewN|apply below_drew1|refine below_set ?_ GE265.out|refine below_set ?_ GE273.out|refine below_set ?_ GE290.out)|exact HB.out))))
         have n3_:=Aside0.mk (blk_below (g:=gb265) (o:=.cells #[.int .i64 a0_0,.int .i64 a0_1] 23 (0,0)) (by (with_reducible repeat (first|refine blk_drewN ?_ _|refine blk_drew ?_|refine blk_alloc ?_ _));exact BK265.out) hb)
         have n4_:=Aside0.mk (blk_below (g:=gb273) (o:=.cells #[.slice Ao40 x274000_3.length co40,.int .i64 x274001_3,.int .i64 x274002_3] 32 (0,0)) (by (with_reducible repeat (first|refine blk_drewN ?_ _|refine blk_drew ?_|refine blk_alloc ?_ _));exact BK273.out) hb)
         have n5_:=Aside0.mk (blk_below (g:=gb290) (o:=.cells #[.slice none 0 0,.int .i64 0,.int .i64 0] 32 (0,0)) (by (with_reducible repeat (first|refine blk_drewN ?_ _|refine blk_drew ?_|refine blk_alloc ?_ _));exact BK290.out) hb)
         have n6_:=Aside0.mk (below_step (by repeat (first|(with_reducible first|exact HB.out|apply below_alloc|apply pw_below_drewN|apply below_drew1|refine below_set ?_ GE265.out|refine below_set ?_ GE273.out|refine below_set ?_ GE290.out)|exact HB.out)) hb)
         clear HO_274000
         clear HO279
         clear BK265
         clear BK273
         clear BK290
         clear HB
         have HO_274000:=n0_
         have HO279:=n1_
         have HO286:=n2_
         have BK265:=n3_
         have BK273:=n4_
         have BK290:=n5_
         have HB:=n6_
         clear n0_ n1_ n2_ n3_ n4_ n5_ n6_
         (try clear hb)
         (try clear hb2)
         (try clear hk)
         (try clear hi)
         (try clear ho0)
         refine hK.out _ _ ⟨(blk_cell BK265.out 0).trans rfl,(blk_cell BK265.out 1).trans rfl,(blk_cell BK273.out 0).trans rfl,(blk_cell BK273.out 1).trans rfl,(blk_cell BK273.out 2).trans rfl,((HB.out.cell (World.block_lt_of_cell? w _ hw282_0)).trans hw282_0),((HB.out.cell (World.block_lt_of_cell? w _ hw283_0)).trans hw283_0)⟩ (fun hHeld => ?_)
         clear hK K
         refine norm_ (a':=?_) ?_ ?_
         rotate_left
         ·show Act.put _ (some 75) _ = _
          simp only [Act.put,setIfInBounds_toArray,set_cons_zero,set_cons_succ,i64_w,i32_w]
          rfl
         refine pure_ (i:=15) (N:=some 60) (v:=?_) (a':=?_) #[true,true,true,true,true,true,true,true,true,true,true,true,true,true,true,true,false,false,true,false,false] rfl rfl (any_of HT_.out (by kernel_rfl)) (fun _ _ _ h => h) (Or.inl ⟨by rfl,?_⟩) ?_ ?_
         rotate_left;(intro w';go_simp;with_reducible rfl);rotate_left;(simp only [Act.put,setIfInBounds_toArray,set_cons_zero,set_cons_succ,i64_w,i32_w];rfl)
         refine pure_ (i:=16) (N:=some 76) (v:=?_) (a':=?_) #[true,true,true,true,true,true,true,true,true,true,true,true,true,true,true,true,true,false,true,false,false] rfl rfl (any_of HT_.out (by kernel_rfl)) (fun _ _ _ h => h) (Or.inl ⟨by rfl,?_⟩) ?_ ?_
         rotate_left;(intro w';go_simp;with_reducible rfl);rotate_left;(simp only [Act.put,setIfInBounds_toArray,set_cons_zero,set_cons_succ,i64_w,i32_w];rfl)
         refine pure_ (i:=17) (N:=some 77) (v:=?_) (a':=?_) #[true,true,true,true,true,true,true,true,true,true,true,true,true,true,true,true,true,true,true,false,false] rfl rfl (any_of HT_.out (by kernel_rfl)) (fun _ _ _ h => h) (Or.inl ⟨by rfl,?_⟩) ?_ ?_
         rotate_left;(intro w';go_simp;with_reducible rfl);rotate_left;(simp only [Act.put,setIfInBounds_toArray,set_cons_zero,set_cons_succ,i64_w,i32_w];rfl)
         exact norm_ (by simp only [putAll,Act.put,setIfInBounds_toArray,set_cons_zero,set_cons_succ]) (hCont (v285,gb290) _ ⟨hHeld,(by (with_reducible repeat (first|apply Kd.R_alloc|apply Kd.R_drewN|apply Kd.R_drew));exact HO279.out),(by (with_reducible repeat (first|apply Kd.R_alloc|apply Kd.R_drewN|apply Kd.R_drew));exact Kd.R_mono HO286.out (fun _ hk => hk.2)),(by (with_reducible repeat (first|apply Kd.R_alloc|apply Kd.R_drewN|apply Kd.R_drew));exact Kd.R_mono HO_274000.out (fun _ hk => hk.2)),(by (with_reducible repeat (first|refine blk_drewN ?_ _|refine blk_drew ?_|refine blk_alloc ?_ _));exact BK265.out),(by (with_reducible repeat (first|refine blk_drewN ?_ _|refine blk_drew ?_|refine blk_alloc ?_ _));exact BK273.out),(by (with_reducible repeat (first|refine blk_drewN ?_ _|refine blk_drew ?_|refine blk_alloc ?_ _));exact BK290.out),GW290.out,GE290.out,NB265_290.out,NB290_265.out,NB273_290.out,NB290_273.out,(by repeat (first|(with_reducible first|exact HB.out|apply below_alloc|apply pw_below_drewN|apply below_drew1|refine below_set ?_ GE265.out|refine below_set ?_ GE273.out|refine below_set ?_ GE290.out)|exact HB.out))⟩)
       rintro ⟨v285,gb290⟩ w47 ⟨hS_,h0_,h1_,h2_,h3_,h4_,h5_,h6_,h7_,h8_,h9_,h10_,h11_,h12_⟩
       have n0_ : Aside0 (Kd.R (Kd.int .i64) 3 w47 w.heap.size (fun _ => True) (.slice Ao42 t277.length co42) t277):=⟨h0_⟩
       have n1_ : Aside0 (Kd.R k62 62 w47 w.heap.size (fun k_ => some k_ ≠ (.slice Ao40 x274000_3.length co40 : Value).ownBlock) v285 t284):=⟨h1_⟩
       have n2_ : Aside0 (Kd.R k62 62 w47 w.heap.size (fun k_ => some k_ ≠ (v285 : Value).ownBlock) (.slice Ao40 x274000_3.length co40) x274000_3):=⟨h2_⟩
       have n3_ : Aside0 (w47.heap[gb265]? = some (.cells #[.int .i64 a0_0,.int .i64 a0_1] 23 (0,0))):=⟨h3_⟩
       have n4_ : Aside0 (w47.heap[gb273]? = some (.cells #[.slice Ao40 x274000_3.length co40,.int .i64 x274001_3,.int .i64 x274002_3] 32 (0,0))):=⟨h4_⟩
       have n5_ : Aside0 (w47.heap[gb290]? = some (.cells #[.slice none 0 0,.int .i64 0,.int .i64 0] 32 (0,0))):=⟨h5_⟩
       have n6_ : Aside0 (w.heap.size ≤ gb290):=⟨h6_⟩
       have n7_ : Aside0 (w.heap.size ≤ gb290):=⟨h7_⟩
       have n8_ : Aside0 (gb265 ≠ gb290):=⟨h8_⟩
       have n9_ : Aside0 (gb290 ≠ gb265):=⟨h9_⟩
       have n10_ : Aside0 (gb273 ≠ gb290):=⟨h10_⟩
       have n11_ : Aside0 (gb290 ≠ gb273):=⟨h11_⟩
       have n12_ : Aside0 (Below w.heap.size w w47):=⟨h12_⟩
       clear HO_274000
       clear HO279
       clear BK265
       clear BK273
       clear HB
       clear h0_ h1_ h2_ h3_ h4_ h5_ h6_ h7_ h8_ h9_ h10_ h11_ h12_
       have HO279:=n0_
       have HO286:=n1_
       have HO_274000:=n2_
       have BK265:=n3_
       have BK273:=n4_
       have BK290:=n5_
       have GW290:=n6_
       have GE290:=n7_
       have NB265_290:=n8_
       have NB290_265:=n9_
       have NB273_290:=n10_
       have NB290_273:=n11_
       have HB:=n12_
       clear n0_ n1_ n2_ n3_ n4_ n5_ n6_ n7_ n8_ n9_ n10_ n11_ n12_
       have hHeld : w47.cell? ⟨gb265,0,none⟩ = some (.int .i64 a0_0)∧w47.cell? ⟨gb265,1,none⟩ = some (.int .i64 a0_1)∧w47.cell? ⟨gb273,0,none⟩ = some (.slice Ao40 x274000_3.length co40)∧w47.cell? ⟨gb273,1,none⟩ = some (.int .i64 x274001_3)∧w47.cell? ⟨gb273,2,none⟩ = some (.int .i64 x274002_3)∧w47.cell? (ad282.add (x14_3).toNat) = some (.int .i64 (rd l2 x14_3))∧w47.cell? (ad283.add (x14_3).toNat) = some (.slice A283_0 (rd_L6 l3 x14_3).length c283_0):=hS_
       obtain ⟨Ao48,co48,eo48⟩:=Kd.R_slice HO286.out
       (first|subst eo48|(injection eo48 with f1_ f2_ f3_;have f4_:=f1_.symm;have f5_:=f3_.symm;clear f1_ f2_ f3_;subst f4_;subst f5_))
       refine norm_ (a':=?_) ?_ ?_
       rotate_left
       ·simp only [putAll,Act.put,setIfInBounds_toArray,set_cons_zero,set_cons_succ]
        rfl
       refine one_ (i:=19) (N:=none) #[true,true,true,true,true,true,true,true,true,true,true,true,true,true,true,true,true,true,true,true,false] rfl rfl (one_of HT_.out (by kernel_rfl)) (by decide) (fun K hK => ?_)
       have hs49 : w47.cell? ⟨gb290,0,none⟩ = some (.slice none 0 0):=(blk_cell BK290.out 0).trans rfl
       have hfs49:=blk_frozen BK290.out 0
       have hns49_0:=NB265_290.out
       have hns49_1:=NB273_290.out
       have hms49_0:=NB290_265.out
       have hms49_1:=NB290_273.out
       have hs50 : w47.cell? ⟨gb290,1,none⟩ = some (.int .i64 0):=(blk_cell BK290.out 1).trans rfl
       have hfs50:=blk_frozen BK290.out 1
       have hns50_0:=NB265_290.out
       have hns50_1:=NB273_290.out
       have hms50_0:=NB290_265.out
       have hms50_1:=NB290_273.out
       have hs51 : w47.cell? ⟨gb290,2,none⟩ = some (.int .i64 0):=(blk_cell BK290.out 2).trans rfl
       have hfs51:=blk_frozen BK290.out 2
       have hns51_0:=NB265_290.out
       have hns51_1:=NB273_290.out
       have hms51_0:=NB290_265.out
       have hms51_1:=NB290_273.out
       refine skip_ (w1:=?_) (by rfl) rfl ?_ ?_
       rotate_left
       ·go_simp
        rfl
       refine hK.out _ _ ⟨((cell_far (p:=⟨gb290,_,none⟩) NB265_290.out _).trans (((cell_far (p:=⟨gb290,_,none⟩) NB265_290.out _).trans (((cell_far (p:=⟨gb290,_,none⟩) NB265_290.out _).trans (hHeld.1)))))),((cell_far (p:=⟨gb290,_,none⟩) NB265_290.out _).trans (((cell_far (p:=⟨gb290,_,none⟩) NB265_290.out _).trans (((cell_far (p:=⟨gb290,_,none⟩) NB265_290.out _).trans (hHeld.2.1)))))),((cell_far (p:=⟨gb290,_,none⟩) NB273_290.out _).trans (((cell_far (p:=⟨gb290,_,none⟩) NB273_290.out _).trans (((cell_far (p:=⟨gb290,_,none⟩) NB273_290.out _).trans (hHeld.2.2.1)))))),((cell_far (p:=⟨gb290,_,none⟩) NB273_290.out _).trans (((cell_far (p:=⟨gb290,_,none⟩) NB273_290.out _).trans (((cell_far (p:=⟨gb290,_,none⟩) NB273_290.out _).trans (hHeld.2.2.2.1)))))),((cell_far (p:=⟨gb290,_,none⟩) NB273_290.out _).trans (((cell_far (p:=⟨gb290,_,none⟩) NB273_290.out _).trans (((cell_far (p:=⟨gb290,_,none⟩) NB273_290.out _).trans (hHeld.2.2.2.2.1)))))),((cell_far (p:=⟨gb290,_,none⟩) (by first|exact Nat.ne_of_lt (Nat.lt_of_lt_of_le (by have:=World.block_lt_of_cell? _ _ hw282_0;first|rwa [add_block] at this|exact this) GW290.out)|(rw [add_block];exact Nat.ne_of_lt (Nat.lt_of_lt_of_le (by have:=World.block_lt_of_cell? _ _ hw282_0;first|rwa [add_block] at this|exact this) GW290.out))|(show (Addr.add _ _).block ≠ _;rw [add_block];exact Nat.ne_of_lt (Nat.lt_of_lt_of_le (by have:=World.block_lt_of_cell? _ _ hw282_0;first|rwa [add_block] at this|exact this) GW290.out))|(dsimp only;exact Nat.ne_of_lt (Nat.lt_of_lt_of_le (by have:=World.block_lt_of_cell? _ _ hw282_0;first|rwa [add_block] at this|exact this) GW290.out))) _).trans (((cell_far (p:=⟨gb290,_,none⟩) (by first|exact Nat.ne_of_lt (Nat.lt_of_lt_of_le (by have:=World.block_lt_of_cell? _ _ hw282_0;first|rwa [add_block] at this|exact this) GW290.out)|(rw [add_block];exact Nat.ne_of_lt (Nat.lt_of_lt_of_le (by have:=World.block_lt_of_cell? _ _ hw282_0;first|rwa [add_block] at this|exact this) GW290.out))|(show (Addr.add _ _).block ≠ _;rw [add_block];exact Nat.ne_of_lt (Nat.lt_of_lt_of_le (by have:=World.block_lt_of_cell? _ _ hw282_0;first|rwa [add_block] at this|exact this) GW290.out))|(dsimp only;exact Nat.ne_of_lt (Nat.lt_of_lt_of_le (by have:=World.block_lt_of_cell? _ _ hw282_0;first|rwa [add_block] at this|exact this) GW290.out))) _).trans (((cell_far (p:=⟨gb290,_,none⟩) (by first|exact Nat.ne_of_lt (Nat.lt_of_lt_of_le (by have:=World.block_lt_of_cell? _ _ hw282_0;first|rwa [add_block] at this|exact this) GW290.out)|(rw [add_block];exact Nat.ne_of_lt (Nat.lt_of_lt_of_le (by have:=World.block_lt_of_cell? _ _ hw282_0;first|rwa [add_block] at this|exact this) GW290.out))|(show (Addr.add _ _).block ≠ _;rw [add_block];exact Nat.ne_of_lt (Nat.lt_of_lt_of_le (by have:=World.block_lt_of_cell? _ _ hw282_0;first|rwa [add_block] at this|exact this) GW290.out))|(dsimp only;exact Nat.ne_of_lt (Nat.lt_of_lt_of_le (by have:=World.block_lt_of_cell? _ _ hw282_0;first|rwa [add_block] at this|exact this) GW290.out))) _).trans (hHeld.2.2.2.2.2.1)))))),((cell_far (p:=⟨gb290,_,none⟩) (by first|exact Nat.ne_of_lt (Nat.lt_of_lt_of_le (by have:=World.block_lt_of_cell? _ _ hw283_0;first|rwa [add_block] at this|exact this) GW290.out)|(rw [add_block];exact Nat.ne_of_lt (Nat.lt_of_lt_of_le (by have:=World.block_lt_of_cell? _ _ hw283_0;first|rwa [add_block] at this|exact this) GW290.out))|(show (Addr.add _ _).block ≠ _;rw [add_block];exact Nat.ne_of_lt (Nat.lt_of_lt_of_le (by have:=World.block_lt_of_cell? _ _ hw283_0;first|rwa [add_block] at this|exact this) GW290.out))|(dsimp only;exact Nat.ne_of_lt (Nat.lt_of_lt_of_le (by have:=World.block_lt_of_cell? _ _ hw283_0;first|rwa [add_block] at this|exact this) GW290.out))) _).trans (((cell_far (p:=⟨gb290,_,none⟩) (by first|exact Nat.ne_of_lt (Nat.lt_of_lt_of_le (by have:=World.block_lt_of_cell? _ _ hw283_0;first|rwa [add_block] at this|exact this) GW290.out)|(rw [add_block];exact Nat.ne_of_lt (Nat.lt_of_lt_of_le (by have:=World.block_lt_of_cell? _ _ hw283_0;first|rwa [add_block] at this|exact this) GW290.out))|(show (Addr.add _ _).block ≠ _;rw [add_block];exact Nat.ne_of_lt (Nat.lt_of_lt_of_le (by have:=World.block_lt_of_cell? _ _ hw283_0;first|rwa [add_block] at this|exact this) GW290.out))|(dsimp only;exact Nat.ne_of_lt (Nat.lt_of_lt_of_le (by have:=World.block_lt_of_cell? _ _ hw283_0;first|rwa [add_block] at this|exact this) GW290.out))) _).trans (((cell_far (p:=⟨gb290,_,none⟩) (by first|exact Nat.ne_of_lt (Nat.lt_of_lt_of_le (by have:=World.block_lt_of_cell? _ _ hw283_0;first|rwa [add_block] at this|exact this) GW290.out)|(rw [add_block];exact Nat.ne_of_lt (Nat.lt_of_lt_of_le (by have:=World.block_lt_of_cell? _ _ hw283_0;first|rwa [add_block] at this|exact this) GW290.out))|(show (Addr.add _ _).block ≠ _;rw [add_block];exact Nat.ne_of_lt (Nat.lt_of_lt_of_le (by have:=World.block_lt_of_cell? _ _ hw283_0;first|rwa [add_block] at this|exact this) GW290.out))|(dsimp only;exact Nat.ne_of_lt (Nat.lt_of_lt_of_le (by have:=World.block_lt_of_cell? _ _ hw283_0;first|rwa [add_block] at this|exact this) GW290.out))) _).trans (hHeld.2.2.2.2.2.2))))))⟩ (fun hHeld => ?_)
       clear hK K
       refine pure_ (i:=20) (N:=some 17) (v:=?_) (a':=?_) #[true,true,true,true,true,true,true,true,true,true,true,true,true,true,true,true,true,true,true,true,true] rfl rfl (any_of HT_.out (by kernel_rfl)) (fun _ _ _ h => h) (Or.inl ⟨by rfl,?_⟩) ?_ ?_
       rotate_left;(intro w';go_simp;with_reducible rfl);rotate_left;(simp only [Act.put,setIfInBounds_toArray,set_cons_zero,set_cons_succ,i64_w,i32_w];rfl)
       refine done_ (done_of HT_.out (by kernel_rfl)) ?_
       try go_wp2
       go_loopg [18,19] k3 (fun kq v18 v19 w' => ∃ (x18_4 : Int) (x19_4 : Int),v18 = .int .i64 x18_4∧v19 = .int .i64 x19_4∧Aside0 (limits.l1 kq a1 l2 l3 a4 x13_3 x14_3 (t277.length : Int) x18_4 x19_4 a0_0 a0_1 x274000_3 x274001_3 x274002_3 t284 t287 t288 = some r)∧Aside0 (kq ≤ k3)∧Aside0 (Kd.R k62 62 w' w.heap.size (fun k_ => some k_ ≠ ((.slice Ao48 t284.length co48) : Value).ownBlock) (.slice Ao40 x274000_3.length co40) x274000_3)∧Aside0 (Kd.R k62 62 w' w.heap.size (fun k_ => some k_ ≠ ((.slice Ao40 x274000_3.length co40) : Value).ownBlock) (.slice Ao48 t284.length co48) t284)∧Aside0 (w'.heap[gb265]? = some (.cells #[.int .i64 a0_0,.int .i64 a0_1] 23 (0,0)))∧Aside0 (w'.heap[gb273]? = some (.cells #[(.slice Ao40 x274000_3.length co40),.int .i64 x274001_3,.int .i64 x274002_3] 32 (0,0)))∧Aside0 (w'.heap[gb290]? = some (.cells #[(.slice Ao48 t284.length co48),.int .i64 t287,.int .i64 t288] 32 (0,0)))∧Aside0 (Below w.heap.size w w'))
       case atStart => exact ⟨(0),(0),(by first|rfl|(simp;done)|(simp [*];done)),(by first|rfl|(simp;done)|(simp [*];done)),H',⟨Nat.le_refl _⟩,⟨by (with_reducible repeat (first|apply Kd.R_alloc|apply Kd.R_drewN|apply Kd.R_drew));exact Kd.R_mono (Kd.R_far (p:=⟨gb290,2,none⟩) (Kd.R_far (p:=⟨gb290,1,none⟩) (Kd.R_far (p:=⟨gb290,0,none⟩) (Kd.R_types HO_274000.out BK290.out (by decide)) (fun _ hk => hk.2) (.slice Ao48 t284.length co48)) (fun _ hk => hk.2) (.int .i64 t287)) (fun _ hk => hk.2) (.int .i64 t288)) (fun _ hk => hk.1)⟩,⟨by (with_reducible repeat (first|apply Kd.R_alloc|apply Kd.R_drewN|apply Kd.R_drew));exact Kd.R_mono (Kd.R_far (p:=⟨gb290,2,none⟩) (Kd.R_far (p:=⟨gb290,1,none⟩) (Kd.R_far (p:=⟨gb290,0,none⟩) (Kd.R_types HO286.out BK290.out (by decide)) (fun _ hk => hk.2) (.slice Ao48 t284.length co48)) (fun _ hk => hk.2) (.int .i64 t287)) (fun _ hk => hk.2) (.int .i64 t288)) (fun _ hk => hk.1)⟩,⟨by (with_reducible repeat (first|refine blk_drewN ?_ _|refine blk_drew ?_|refine blk_alloc ?_ _));refine blk_far ?_ NB265_290.out _;(with_reducible repeat (first|refine blk_drewN ?_ _|refine blk_drew ?_|refine blk_alloc ?_ _));refine blk_far ?_ NB265_290.out _;(with_reducible repeat (first|refine blk_drewN ?_ _|refine blk_drew ?_|refine blk_alloc ?_ _));refine blk_far ?_ NB265_290.out _;(with_reducible repeat (first|refine blk_drewN ?_ _|refine blk_drew ?_|refine blk_alloc ?_ _));exact BK265.out⟩,⟨by (with_reducible repeat (first|refine blk_drewN ?_ _|refine blk_drew ?_|refine blk_alloc ?_ _));refine blk_far ?_ NB273_290.out _;(with_reducible repeat (first|refine blk_drewN ?_ _|refine blk_drew ?_|refine blk_alloc ?_ _));refine blk_far ?_ NB273_290.out _;(with_reducible repeat (first|refine blk_drewN ?_ _|refine blk_drew ?_|refine blk_alloc ?_ _));refine blk_far ?_ NB273_290.out _;(with_reducible repeat (first|refine blk_drewN ?_ _|refine blk_drew ?_|refine blk_alloc ?_ _));exact BK273.out⟩,⟨by (with_reducible repeat (first|refine blk_drewN ?_ _|refine blk_drew ?_|refine blk_alloc ?_ _));refine blk_put (cs:=#[.slice Ao48 t284.length co48,.int .i64 t287,.int .i64 0]) ?_ 2 _ rfl;(with_reducible repeat (first|refine blk_drewN ?_ _|refine blk_drew ?_|refine blk_alloc ?_ _));refine blk_put (cs:=#[.slice Ao48 t284.length co48,.int .i64 0,.int .i64 0]) ?_ 1 _ rfl;(with_reducible repeat (first|refine blk_drewN ?_ _|refine blk_drew ?_|refine blk_alloc ?_ _));refine blk_put (cs:=#[.slice none 0 0,.int .i64 0,.int .i64 0]) ?_ 0 _ rfl;(with_reducible repeat (first|refine blk_drewN ?_ _|refine blk_drew ?_|refine blk_alloc ?_ _));exact BK290.out⟩,⟨by repeat (first|(with_reducible first|exact HB.out|apply below_alloc|apply pw_below_drewN|apply below_drew1|refine below_set ?_ GE265.out|refine below_set ?_ GE273.out|refine below_set ?_ GE290.out)|exact HB.out)⟩⟩
       case round =>
        as_aux_lemma =>
        clear H'
        (try clear c1);(try clear c2);(try clear p2);(try clear q2);(try clear hx2);(try clear p6);(try clear c15);(try clear c28);(try clear p28);(try clear q28);(try clear hx28);(try clear hx282_0);(try clear hx283_0);(try clear p282);(try clear p283);(try clear q282);(try clear q283)
        obtain ⟨x18_4,x19_4,rfl,rfl,HA,HK4,HO_274000,HO_291000,BK265,BK273,BK290,HB⟩:=hrel
        cases gk with
        | zero => exact absurd HA.out (by simp [limits.l1])
        | succ k4 =>
         have H:=HA.out
         clear HA
         simp only [limits.l1] at H
         by_cases c52 : x19_4 < (t284.length : Int)
         rotate_left
         ·rw [if_neg c52] at H
          have c52b0 : decide (x19_4 < (t284.length : Int)) = false:=decide_eq_false c52
          clear c52
          by_cases c78 : 0 ≤ x14_3
          rotate_left
          ·rw [if_neg c78] at H
           exact absurd H (by simp)
          rw [if_pos c78] at H
          have c78b0 : decide (0 ≤ x14_3) = true:=decide_eq_true c78
          clear c78
          by_cases c79 : x14_3 < (l2.length : Int)
          rotate_left
          ·rw [if_neg c79] at H
           exact absurd H (by simp)
          rw [if_pos c79] at H
          have c79b0 : decide (x14_3 < (l2.length : Int)) = true:=decide_eq_true c79
          clear c79
          obtain ⟨ji80,hji80⟩ : ∃ j_ : Int,(mx 0 (rd l2 x14_3)) = j_:=⟨_,rfl⟩
          replace H : (if x18_4 > (ji80) then (none) else (if x18_4 > (t277.length : Int) then (limits.j4 k4 a1 l2 l3 a4 x13_3 x14_3 (t277.length : Int) x18_4 true a0_0 a0_1 t284 t287 t288) else (limits.j4 k4 a1 l2 l3 a4 x13_3 x14_3 (t277.length : Int) x18_4 (t287 != x274001_3) a0_0 a0_1 t284 t287 t288))) = some r:=by first|(rw [hji80] at H;exact H)|(simp only [hji80] at H ⊢;exact H)
          have hji80_ : (if 0 < (rd l2 x14_3) then (rd l2 x14_3) else 0) = ji80:=hji80
          by_cases c81 : x18_4 > (ji80)
          ·rw [if_pos c81] at H
           exact absurd H (by simp)
          rw [if_neg c81] at H
          have c81b0 : decide ((ji80) < x18_4) = false:=decide_eq_false c81
          clear c81
          have HC82:=Aside0.mk H
          clear H
          have hnb83:=NB290_265.out
          have hnc83:=NB265_290.out
          have hnb84:=NB290_273.out
          have hnc84:=NB273_290.out
          have hcz85_0 : wr.cell? ⟨gb290,0,none⟩ = some (.slice Ao48 t284.length co48):=(blk_cell BK290.out 0).trans rfl
          have hcz85_1 : wr.cell? ⟨gb290,1,none⟩ = some (.int .i64 t287):=(blk_cell BK290.out 1).trans rfl
          have hcz85_2 : wr.cell? ⟨gb290,2,none⟩ = some (.int .i64 t288):=(blk_cell BK290.out 2).trans rfl
          have hfz85_0:=blk_frozen BK290.out 0
          have hfz85_1:=blk_frozen BK290.out 1
          have hfz85_2:=blk_frozen BK290.out 2
          have p307 : 0 ≤ (x14_3 : Int):=of_decide_eq_true (by first|(with_reducible assumption)|assumption)
          have q307 : x14_3 < (l2.length : Int):=of_decide_eq_true (by first|(with_reducible assumption)|assumption)
          obtain ⟨ad307,e307,hx307_0⟩:=Kd.at_int HR2.out x14_3 p307 q307
          obtain rfl : ad282 = ad307:=(by injection e307)
          replace hx307_0:=(HB.out.cell (World.block_lt_of_cell? w _ hx307_0)).trans hx307_0
          replace p307:=eq_true p307
          replace q307:=eq_true q307
          go_upto_region 26 with (fail)
          go_cut [168] (fun v168 wc => ∃ (kq : Nat) (x168_81 : Bool),v168 = .bool x168_81∧Aside0 (limits.j4 kq a1 l2 l3 a4 x13_3 x14_3 (t277.length : Int) x18_4 x168_81 a0_0 a0_1 t284 t287 t288 = some r)∧Aside0 (kq ≤ k4)∧Aside0 (Kd.R k62 62 wc w.heap.size (fun k_ => some k_ ≠ ((.slice Ao48 t284.length co48) : Value).ownBlock) (.slice Ao40 x274000_3.length co40) x274000_3)∧Aside0 (Kd.R k62 62 wc w.heap.size (fun k_ => some k_ ≠ ((.slice Ao40 x274000_3.length co40) : Value).ownBlock) (.slice Ao48 t284.length co48) t284)∧Aside0 (wc.heap[gb265]? = some (.cells #[.int .i64 a0_0,.int .i64 a0_1] 23 (0,0)))∧Aside0 (wc.heap[gb273]? = some (.cells #[(.slice Ao40 x274000_3.length co40),.int .i64 x274001_3,.int .i64 x274002_3] 32 (0,0)))∧Aside0 (wc.heap[gb290]? = some (.cells #[(.slice Ao48 t284.length co48),.int .i64 t287,.int .i64 t288] 32 (0,0)))∧Aside0 (Below w.heap.size w wc))
          case first =>
           as_aux_lemma =>
           have H:=HC82.out
           clear HC82
           by_cases c86 : x18_4 > (t277.length : Int)
           ·rw [if_pos c86] at H
            have c86b0 : decide ((t277.length : Int) < x18_4) = true:=decide_eq_true c86
            clear c86
            (first|rw [c86b0]|(simp only [i64_w,i32_w];rw [c86b0])|skip)
            have H':=Aside0.mk H
            clear H
            go_wp2
            go_meet
            case rel => exact ⟨_,(true),(by first|rfl|(simp;done)|(simp [*];done)),H',⟨by have:=HJ7.out;have:=HJ14.out;have:=HK3.out;have:=HK4.out;first|omega|exact Nat.le_refl _⟩,⟨by (with_reducible repeat (first|apply Kd.R_alloc|apply Kd.R_drewN|apply Kd.R_drew));exact HO_274000.out⟩,⟨by (with_reducible repeat (first|apply Kd.R_alloc|apply Kd.R_drewN|apply Kd.R_drew));exact HO_291000.out⟩,⟨by (with_reducible repeat (first|refine blk_drewN ?_ _|refine blk_drew ?_|refine blk_alloc ?_ _));exact BK265.out⟩,⟨by (with_reducible repeat (first|refine blk_drewN ?_ _|refine blk_drew ?_|refine blk_alloc ?_ _));exact BK273.out⟩,⟨by (with_reducible repeat (first|refine blk_drewN ?_ _|refine blk_drew ?_|refine blk_alloc ?_ _));exact BK290.out⟩,⟨by repeat (first|(with_reducible first|exact HB.out|apply below_alloc|apply pw_below_drewN|apply below_drew1|refine below_set ?_ GE265.out|refine below_set ?_ GE273.out|refine below_set ?_ GE290.out)|exact HB.out)⟩⟩
           rw [if_neg c86] at H
           have c86b0 : decide ((t277.length : Int) < x18_4) = false:=decide_eq_false c86
           clear c86
           (first|rw [c86b0]|(simp only [i64_w,i32_w];rw [c86b0])|skip)
           have H':=Aside0.mk H
           clear H
           have hnb87:=NB290_265.out
           have hnc87:=NB265_290.out
           have hnb88:=NB290_273.out
           have hnc88:=NB273_290.out
           have hcz89_0 : wr.cell? ⟨gb290,0,none⟩ = some (.slice Ao48 t284.length co48):=(blk_cell BK290.out 0).trans rfl
           have hcz89_1 : wr.cell? ⟨gb290,1,none⟩ = some (.int .i64 t287):=(blk_cell BK290.out 1).trans rfl
           have hcz89_2 : wr.cell? ⟨gb290,2,none⟩ = some (.int .i64 t288):=(blk_cell BK290.out 2).trans rfl
           have hfz89_0:=blk_frozen BK290.out 0
           have hfz89_1:=blk_frozen BK290.out 1
           have hfz89_2:=blk_frozen BK290.out 2
           have hnb90:=NB273_265.out
           have hnc90:=NB265_273.out
           have hcz91_0 : wr.cell? ⟨gb273,0,none⟩ = some (.slice Ao40 x274000_3.length co40):=(blk_cell BK273.out 0).trans rfl
           have hcz91_1 : wr.cell? ⟨gb273,1,none⟩ = some (.int .i64 x274001_3):=(blk_cell BK273.out 1).trans rfl
           have hcz91_2 : wr.cell? ⟨gb273,2,none⟩ = some (.int .i64 x274002_3):=(blk_cell BK273.out 2).trans rfl
           have hfz91_0:=blk_frozen BK273.out 0
           have hfz91_1:=blk_frozen BK273.out 1
           have hfz91_2:=blk_frozen BK273.out 2
           go_wp2
           go_meet
           case rel => exact ⟨_,((t287 != x274001_3)),(by first|rfl|(simp;done)|(simp [*];done)),H',⟨by have:=HJ7.out;have:=HJ14.out;have:=HK3.out;have:=HK4.out;first|omega|exact Nat.le_refl _⟩,⟨by (with_reducible repeat (first|apply Kd.R_alloc|apply Kd.R_drewN|apply Kd.R_drew));exact HO_274000.out⟩,⟨by (with_reducible repeat (first|apply Kd.R_alloc|apply Kd.R_drewN|apply Kd.R_drew));exact HO_291000.out⟩,⟨by (with_reducible repeat (first|refine blk_drewN ?_ _|refine blk_drew ?_|refine blk_alloc ?_ _));exact BK265.out⟩,⟨by (with_reducible repeat (first|refine blk_drewN ?_ _|refine blk_drew ?_|refine blk_alloc ?_ _));exact BK273.out⟩,⟨by (with_reducible repeat (first|refine blk_drewN ?_ _|refine blk_drew ?_|refine blk_alloc ?_ _));exact BK290.out⟩,⟨by repeat (first|(with_reducible first|exact HB.out|apply below_alloc|apply pw_below_drewN|apply below_drew1|refine below_set ?_ GE265.out|refine below_set ?_ GE273.out|refine below_set ?_ GE290.out)|exact HB.out)⟩⟩
          case rest =>
           as_aux_lemma =>
           clear HC82
           (try clear p2);(try clear q2);(try clear hx2);(try clear c3);(try clear p3);(try clear q3);(try clear hx3);(try clear c5);(try clear q5);(try clear c6);(try clear p6);(try clear c7);(try clear c8);(try clear c9);(try clear p29);(try clear q29);(try clear hx29);(try clear c30);(try clear p30);(try clear q30);(try clear hx30);(try clear c52);(try clear c52b0);(try clear c53);(try clear q54);(try clear c55);(try clear c56);(try clear c57);(try clear c58);(try clear c62);(try clear p64);(try clear c68);(try clear c68b0);(try clear c69);(try clear c69b0);(try clear c70);(try clear c70b0);(try clear c71);(try clear c71b0);(try clear c71b1);(try clear c71b2);(try clear c72);(try clear c72b0);(try clear c73);(try clear c73b0);(try clear c74);(try clear c75);(try clear c78);(try clear c78b0);(try clear c79);(try clear c79b0);(try clear c81);(try clear c81b0);(try clear c83);(try clear c84);(try clear c86);(try clear c86b0);(try clear c87);(try clear c88);(try clear c90);(try clear hcz76_0);(try clear hcz76_1);(try clear hcz76_2);(try clear hcz85_0);(try clear hcz85_1);(try clear hcz85_2);(try clear hcz89_0);(try clear hcz89_1);(try clear hcz89_2);(try clear hcz91_0);(try clear hcz91_1);(try clear hcz91_2);(try clear hfz76_0);(try clear hfz76_1);(try clear hfz76_2);(try clear hfz85_0);(try clear hfz85_1);(try clear hfz85_2);(try clear hfz89_0);(try clear hfz89_1);(try clear hfz89_2);(try clear hfz91_0);(try clear hfz91_1);(try clear hfz91_2);(try clear hx292_0);(try clear hx292_1);(try clear hx292_2);(try clear hx301_0);(try clear hx301_1);(try clear hx301_2);(try clear hx302_0);(try clear hx302_1);(try clear hx302_2);(try clear hx303_0);(try clear hx304_0);(try clear hx305_0);(try clear hx305_1);(try clear hx305_2);(try clear hx306_0);(try clear hx306_1);(try clear hx306_2);(try clear hx307_0);(try clear p292);(try clear p301);(try clear p302);(try clear p303);(try clear p304);(try clear p305);(try clear p306);(try clear p307);(try clear q292);(try clear q301);(try clear q302);(try clear q303);(try clear q304);(try clear q305);(try clear q306);(try clear q307)
           obtain ⟨kq,x168_81,rfl,HA,HJ81,HO_274000,HO_291000,BK265,BK273,BK290,HB⟩:=hcut
           cases kq with
           | zero => exact absurd HA.out (by simp [limits.j4])
           | succ kj81 =>
            have H:=HA.out
            clear HA
            simp only [limits.j4] at H
            by_cases c92 : x168_81 = true
            rotate_left
            ·replace c92:=Bool.eq_false_iff.mpr c92
             subst c92
             have H1 : (limits.l0 kj81 a1 l2 l3 a4 x13_3 (wrap64 (x14_3 + 1)) a0_0 a0_1 t284 t287 t288) = some r:=by rw [if_neg (show ¬ (false = true) by decide)] at H;exact H
             clear H
             have H:=H1
             clear H1
             have H':=Aside0.mk H
             clear H
             have hnb108:=NB290_265.out
             have hnc108:=NB265_290.out
             have hnb109:=NB290_273.out
             have hnc109:=NB273_290.out
             have hcz110_0 : wc.cell? ⟨gb290,0,none⟩ = some (.slice Ao48 t284.length co48):=(blk_cell BK290.out 0).trans rfl
             have hcz110_1 : wc.cell? ⟨gb290,1,none⟩ = some (.int .i64 t287):=(blk_cell BK290.out 1).trans rfl
             have hcz110_2 : wc.cell? ⟨gb290,2,none⟩ = some (.int .i64 t288):=(blk_cell BK290.out 2).trans rfl
             have hfz110_0:=blk_frozen BK290.out 0
             have hfz110_1:=blk_frozen BK290.out 1
             have hfz110_2:=blk_frozen BK290.out 2
             have hnb111:=NB273_265.out
             have hnc111:=NB265_273.out
             have hcz112_0 : wc.cell? ⟨gb273,0,none⟩ = some (.slice Ao40 x274000_3.length co40):=(blk_cell BK273.out 0).trans rfl
             have hcz112_1 : wc.cell? ⟨gb273,1,none⟩ = some (.int .i64 x274001_3):=(blk_cell BK273.out 1).trans rfl
             have hcz112_2 : wc.cell? ⟨gb273,2,none⟩ = some (.int .i64 x274002_3):=(blk_cell BK273.out 2).trans rfl
             have hfz112_0:=blk_frozen BK273.out 0
             have hfz112_1:=blk_frozen BK273.out 1
             have hfz112_2:=blk_frozen BK273.out 2
             go_wp2
             go_roundg kj81
             case measure => have:=HJ7.out;have:=HJ14.out;have:=HK3.out;have:=HK4.out;have:=HJ81.out;omega
             case rel => exact ⟨(x13_3),(wrap64 (x14_3 + 1)),(t284),(t287),(t288),(.slice Ao48 t284.length co48),(by first|rfl|(simp;done)|(simp [*];done)),(by first|rfl|(simp;done)|(simp [*];done)),H',⟨by have:=HJ7.out;have:=HJ14.out;have:=HK3.out;have:=HK4.out;have:=HJ81.out;omega⟩,⟨by (with_reducible repeat (first|apply Kd.R_alloc|apply Kd.R_drewN|apply Kd.R_drew));exact Kd.R_mono (Kd.R_far (p:=⟨gb273,2,none⟩) (Kd.R_far (p:=⟨gb273,1,none⟩) (Kd.R_far (p:=⟨gb273,0,none⟩) (Kd.R_types HO_291000.out BK273.out (by decide)) (fun _ hk => hk.2) (.slice Ao48 t284.length co48)) (fun _ hk => hk.2) (.int .i64 t287)) (fun _ hk => hk.2) (.int .i64 t288)) (fun _ hk => trivial)⟩,⟨by (with_reducible repeat (first|refine blk_drewN ?_ _|refine blk_drew ?_|refine blk_alloc ?_ _));refine blk_far ?_ NB265_273.out _;(with_reducible repeat (first|refine blk_drewN ?_ _|refine blk_drew ?_|refine blk_alloc ?_ _));refine blk_far ?_ NB265_273.out _;(with_reducible repeat (first|refine blk_drewN ?_ _|refine blk_drew ?_|refine blk_alloc ?_ _));refine blk_far ?_ NB265_273.out _;(with_reducible repeat (first|refine blk_drewN ?_ _|refine blk_drew ?_|refine blk_alloc ?_ _));exact BK265.out⟩,⟨by (with_reducible repeat (first|refine blk_drewN ?_ _|refine blk_drew ?_|refine blk_alloc ?_ _));refine blk_put (cs:=#[.slice Ao48 t284.length co48,.int .i64 t287,.int .i64 x274002_3]) ?_ 2 _ rfl;(with_reducible repeat (first|refine blk_drewN ?_ _|refine blk_drew ?_|refine blk_alloc ?_ _));refine blk_put (cs:=#[.slice Ao48 t284.length co48,.int .i64 x274001_3,.int .i64 x274002_3]) ?_ 1 _ rfl;(with_reducible repeat (first|refine blk_drewN ?_ _|refine blk_drew ?_|refine blk_alloc ?_ _));refine blk_put (cs:=#[.slice Ao40 x274000_3.length co40,.int .i64 x274001_3,.int .i64 x274002_3]) ?_ 0 _ rfl;(with_reducible repeat (first|refine blk_drewN ?_ _|refine blk_drew ?_|refine blk_alloc ?_ _));exact BK273.out⟩,⟨by repeat (first|(with_reducible first|exact HB.out|apply below_alloc|apply pw_below_drewN|apply below_drew1|refine below_set ?_ GE265.out|refine below_set ?_ GE273.out|refine below_set ?_ GE290.out)|exact HB.out)⟩⟩
            subst c92
            have H1 : (if x18_4 > (wrap64 ((t277.length : Int) + 1)) then (none) else (if t287 = (wrap64 (a4 + x14_3)) then (if x13_3 ≥ 0 then (if (wrap64 ((wrap64 (a4 + x14_3)) - x13_3)) < a0_1 then (none) else (limits.l0 kj81 a1 l2 l3 a4 (wrap64 (a4 + x14_3)) (wrap64 (x14_3 + 1)) a0_0 a0_1 t284 t287 t288)) else (limits.l0 kj81 a1 l2 l3 a4 (wrap64 (a4 + x14_3)) (wrap64 (x14_3 + 1)) a0_0 a0_1 t284 t287 t288)) else (none))) = some r:=by rw [if_pos rfl] at H;exact H
            clear H
            have H:=H1
            clear H1
            by_cases c93 : x18_4 > (wrap64 ((t277.length : Int) + 1))
            ·rw [if_pos c93] at H
             exact absurd H (by simp)
            rw [if_neg c93] at H
            have c93b0 : decide ((wrap64 ((t277.length : Int) + 1)) < x18_4) = false:=decide_eq_false c93
            clear c93
            by_cases c94 : t287 = (wrap64 (a4 + x14_3))
            rotate_left
            ·rw [if_neg c94] at H
             exact absurd H (by simp)
            rw [if_pos c94] at H
            have c94b0 : (t287 == (wrap64 (a4 + x14_3))) = true:=beq_iff_eq.mpr c94
            have c94b1 : (t287 != (wrap64 (a4 + x14_3))) = false:=bne_eq_false_iff_eq.mpr c94
            clear c94
            by_cases c95 : x13_3 ≥ 0
            rotate_left
            ·rw [if_neg c95] at H
             have c95b0 : decide (0 ≤ x13_3) = false:=decide_eq_false c95
             clear c95
             have H':=Aside0.mk H
             clear H
             have hnb103:=NB290_265.out
             have hnc103:=NB265_290.out
             have hnb104:=NB290_273.out
             have hnc104:=NB273_290.out
             have hcz105_0 : wc.cell? ⟨gb290,0,none⟩ = some (.slice Ao48 t284.length co48):=(blk_cell BK290.out 0).trans rfl
             have hcz105_1 : wc.cell? ⟨gb290,1,none⟩ = some (.int .i64 t287):=(blk_cell BK290.out 1).trans rfl
             have hcz105_2 : wc.cell? ⟨gb290,2,none⟩ = some (.int .i64 t288):=(blk_cell BK290.out 2).trans rfl
             have hfz105_0:=blk_frozen BK290.out 0
             have hfz105_1:=blk_frozen BK290.out 1
             have hfz105_2:=blk_frozen BK290.out 2
             have hnb106:=NB273_265.out
             have hnc106:=NB265_273.out
             have hcz107_0 : wc.cell? ⟨gb273,0,none⟩ = some (.slice Ao40 x274000_3.length co40):=(blk_cell BK273.out 0).trans rfl
             have hcz107_1 : wc.cell? ⟨gb273,1,none⟩ = some (.int .i64 x274001_3):=(blk_cell BK273.out 1).trans rfl
             have hcz107_2 : wc.cell? ⟨gb273,2,none⟩ = some (.int .i64 x274002_3):=(blk_cell BK273.out 2).trans rfl
             have hfz107_0:=blk_frozen BK273.out 0
             have hfz107_1:=blk_frozen BK273.out 1
             have hfz107_2:=blk_frozen BK273.out 2
             go_wp2
             go_roundg kj81
             case measure => have:=HJ7.out;have:=HJ14.out;have:=HK3.out;have:=HK4.out;have:=HJ81.out;omega
             case rel => exact ⟨(wrap64 (a4 + x14_3)),(wrap64 (x14_3 + 1)),(t284),(t287),(t288),(.slice Ao48 t284.length co48),(by first|rfl|(simp;done)|(simp [*];done)),(by first|rfl|(simp;done)|(simp [*];done)),H',⟨by have:=HJ7.out;have:=HJ14.out;have:=HK3.out;have:=HK4.out;have:=HJ81.out;omega⟩,⟨by (with_reducible repeat (first|apply Kd.R_alloc|apply Kd.R_drewN|apply Kd.R_drew));exact Kd.R_mono (Kd.R_far (p:=⟨gb273,2,none⟩) (Kd.R_far (p:=⟨gb273,1,none⟩) (Kd.R_far (p:=⟨gb273,0,none⟩) (Kd.R_types HO_291000.out BK273.out (by decide)) (fun _ hk => hk.2) (.slice Ao48 t284.length co48)) (fun _ hk => hk.2) (.int .i64 t287)) (fun _ hk => hk.2) (.int .i64 t288)) (fun _ hk => trivial)⟩,⟨by (with_reducible repeat (first|refine blk_drewN ?_ _|refine blk_drew ?_|refine blk_alloc ?_ _));refine blk_far ?_ NB265_273.out _;(with_reducible repeat (first|refine blk_drewN ?_ _|refine blk_drew ?_|refine blk_alloc ?_ _));refine blk_far ?_ NB265_273.out _;(with_reducible repeat (first|refine blk_drewN ?_ _|refine blk_drew ?_|refine blk_alloc ?_ _));refine blk_far ?_ NB265_273.out _;(with_reducible repeat (first|refine blk_drewN ?_ _|refine blk_drew ?_|refine blk_alloc ?_ _));exact BK265.out⟩,⟨by (with_reducible repeat (first|refine blk_drewN ?_ _|refine blk_drew ?_|refine blk_alloc ?_ _));refine blk_put (cs:=#[.slice Ao48 t284.length co48,.int .i64 t287,.int .i64 x274002_3]) ?_ 2 _ rfl;(with_reducible repeat (first|refine blk_drewN ?_ _|refine blk_drew ?_|refine blk_alloc ?_ _));refine blk_put (cs:=#[.slice Ao48 t284.length co48,.int .i64 x274001_3,.int .i64 x274002_3]) ?_ 1 _ rfl;(with_reducible repeat (first|refine blk_drewN ?_ _|refine blk_drew ?_|refine blk_alloc ?_ _));refine blk_put (cs:=#[.slice Ao40 x274000_3.length co40,.int .i64 x274001_3,.int .i64 x274002_3]) ?_ 0 _ rfl;(with_reducible repeat (first|refine blk_drewN ?_ _|refine blk_drew ?_|refine blk_alloc ?_ _));exact BK273.out⟩,⟨by repeat (first|(with_reducible first|exact HB.out|apply below_alloc|apply pw_below_drewN|apply below_drew1|refine below_set ?_ GE265.out|refine below_set ?_ GE273.out|refine below_set ?_ GE290.out)|exact HB.out)⟩⟩
            rw [if_pos c95] at H
            have c95b0 : decide (0 ≤ x13_3) = true:=decide_eq_true c95
            clear c95
            by_cases c96 : (wrap64 ((wrap64 (a4 + x14_3)) - x13_3)) < a0_1
            ·rw [if_pos c96] at H
             exact absurd H (by simp)
            rw [if_neg c96] at H
            have c96b0 : decide ((wrap64 ((wrap64 (a4 + x14_3)) - x13_3)) < a0_1) = false:=decide_eq_false c96
            clear c96
            have H':=Aside0.mk H
            clear H
            have hnb97:=NB290_265.out
            have hnc97:=NB265_290.out
            have hnb98:=NB290_273.out
            have hnc98:=NB273_290.out
            have hcz99_0 : wc.cell? ⟨gb290,0,none⟩ = some (.slice Ao48 t284.length co48):=(blk_cell BK290.out 0).trans rfl
            have hcz99_1 : wc.cell? ⟨gb290,1,none⟩ = some (.int .i64 t287):=(blk_cell BK290.out 1).trans rfl
            have hcz99_2 : wc.cell? ⟨gb290,2,none⟩ = some (.int .i64 t288):=(blk_cell BK290.out 2).trans rfl
            have hfz99_0:=blk_frozen BK290.out 0
            have hfz99_1:=blk_frozen BK290.out 1
            have hfz99_2:=blk_frozen BK290.out 2
            have hnb100:=NB265_273.out
            have hnc100:=NB273_265.out
            have hcz101_0 : wc.cell? ⟨gb265,0,none⟩ = some (.int .i64 a0_0):=(blk_cell BK265.out 0).trans rfl
            have hcz101_1 : wc.cell? ⟨gb265,1,none⟩ = some (.int .i64 a0_1):=(blk_cell BK265.out 1).trans rfl
            have hfz101_0:=blk_frozen BK265.out 0
            have hfz101_1:=blk_frozen BK265.out 1
            have hcz102_0 : wc.cell? ⟨gb273,0,none⟩ = some (.slice Ao40 x274000_3.length co40):=(blk_cell BK273.out 0).trans rfl
            have hcz102_1 : wc.cell? ⟨gb273,1,none⟩ = some (.int .i64 x274001_3):=(blk_cell BK273.out 1).trans rfl
            have hcz102_2 : wc.cell? ⟨gb273,2,none⟩ = some (.int .i64 x274002_3):=(blk_cell BK273.out 2).trans rfl
            have hfz102_0:=blk_frozen BK273.out 0
            have hfz102_1:=blk_frozen BK273.out 1
            have hfz102_2:=blk_frozen BK273.out 2
            go_wp2
            go_roundg kj81
            case measure => have:=HJ7.out;have:=HJ14.out;have:=HK3.out;have:=HK4.out;have:=HJ81.out;omega
            case rel => exact ⟨(wrap64 (a4 + x14_3)),(wrap64 (x14_3 + 1)),(t284),(t287),(t288),(.slice Ao48 t284.length co48),(by first|rfl|(simp;done)|(simp [*];done)),(by first|rfl|(simp;done)|(simp [*];done)),H',⟨by have:=HJ7.out;have:=HJ14.out;have:=HK3.out;have:=HK4.out;have:=HJ81.out;omega⟩,⟨by (with_reducible repeat (first|apply Kd.R_alloc|apply Kd.R_drewN|apply Kd.R_drew));exact Kd.R_mono (Kd.R_far (p:=⟨gb273,2,none⟩) (Kd.R_far (p:=⟨gb273,1,none⟩) (Kd.R_far (p:=⟨gb273,0,none⟩) (Kd.R_types HO_291000.out BK273.out (by decide)) (fun _ hk => hk.2) (.slice Ao48 t284.length co48)) (fun _ hk => hk.2) (.int .i64 t287)) (fun _ hk => hk.2) (.int .i64 t288)) (fun _ hk => trivial)⟩,⟨by (with_reducible repeat (first|refine blk_drewN ?_ _|refine blk_drew ?_|refine blk_alloc ?_ _));refine blk_far ?_ NB265_273.out _;(with_reducible repeat (first|refine blk_drewN ?_ _|refine blk_drew ?_|refine blk_alloc ?_ _));refine blk_far ?_ NB265_273.out _;(with_reducible repeat (first|refine blk_drewN ?_ _|refine blk_drew ?_|refine blk_alloc ?_ _));refine blk_far ?_ NB265_273.out _;(with_reducible repeat (first|refine blk_drewN ?_ _|refine blk_drew ?_|refine blk_alloc ?_ _));exact BK265.out⟩,⟨by (with_reducible repeat (first|refine blk_drewN ?_ _|refine blk_drew ?_|refine blk_alloc ?_ _));refine blk_put (cs:=#[.slice Ao48 t284.length co48,.int .i64 t287,.int .i64 x274002_3]) ?_ 2 _ rfl;(with_reducible repeat (first|refine blk_drewN ?_ _|refine blk_drew ?_|refine blk_alloc ?_ _));refine blk_put (cs:=#[.slice Ao48 t284.length co48,.int .i64 x274001_3,.int .i64 x274002_3]) ?_ 1 _ rfl;(with_reducible repeat (first|refine blk_drewN ?_ _|refine blk_drew ?_|refine blk_alloc ?_ _));refine blk_put (cs:=#[.slice Ao40 x274000_3.length co40,.int .i64 x274001_3,.int .i64 x274002_3]) ?_ 0 _ rfl;(with_reducible repeat (first|refine blk_drewN ?_ _|refine blk_drew ?_|refine blk_alloc ?_ _));exact BK273.out⟩,⟨by repeat (first|(with_reducible first|exact HB.out|apply below_alloc|apply pw_below_drewN|apply below_drew1|refine below_set ?_ GE265.out|refine below_set ?_ GE273.out|refine below_set ?_ GE290.out)|exact HB.out)⟩⟩
         rw [if_pos c52] at H
         have c52b0 : decide (x19_4 < (t284.length : Int)) = true:=decide_eq_true c52
         clear c52
         by_cases c53 : 0 ≤ x19_4
         rotate_left
         ·rw [if_neg c53] at H
          exact absurd H (by simp)
         rw [if_pos c53] at H
         have c53b0 : decide (0 ≤ x19_4) = true:=decide_eq_true c53
         clear c53
         obtain ⟨bq54,hbq54⟩ : ∃ b_ : Bool,b_ = ((rd_T62 t284 x19_4).f1):=⟨_,rfl⟩
         replace H : (if bq54 = true then (if 0 ≤ x14_3 then (if x14_3 < (l3.length : Int) then (if x19_4 < ((rd_L6 l3 x14_3).length : Int) then (if rdOf false (rd_L6 l3 x14_3) x19_4 = true then (none) else (if (((rd_T62 t284 x19_4).f2) != (rdOf false (rd_L6 l3 x14_3) x19_4)) = true then (none) else (if x19_4 < (x274000_3.length : Int) then (if ((rd_T62 t284 x19_4).f0) < ((rd_T62 x274000_3 x19_4).f0) then (none) else (limits.l1 k4 a1 l2 l3 a4 x13_3 x14_3 (t277.length : Int) (wrap64 (x18_4 + 1)) (wrap64 (x19_4 + 1)) a0_0 a0_1 x274000_3 x274001_3 x274002_3 t284 t287 t288)) else (none)))) else (none)) else (none)) else (none)) else (if 0 ≤ x14_3 then (if x14_3 < (l3.length : Int) then (if x19_4 < ((rd_L6 l3 x14_3).length : Int) then (if (((rd_T62 t284 x19_4).f2) != (rdOf false (rd_L6 l3 x14_3) x19_4)) = true then (none) else (if x19_4 < (x274000_3.length : Int) then (if ((rd_T62 t284 x19_4).f0) < ((rd_T62 x274000_3 x19_4).f0) then (none) else (limits.l1 k4 a1 l2 l3 a4 x13_3 x14_3 (t277.length : Int) x18_4 (wrap64 (x19_4 + 1)) a0_0 a0_1 x274000_3 x274001_3 x274002_3 t284 t287 t288)) else (none))) else (none)) else (none)) else (none))) = some r:=by rw [← hbq54] at H;exact H
         have Nbq54:=Aside0.mk hbq54
         clear hbq54
         by_cases c55 : bq54 = true
         rotate_left
         ·replace c55:=Bool.eq_false_iff.mpr c55
          subst c55
          have H1 : (if 0 ≤ x14_3 then (if x14_3 < (l3.length : Int) then (if x19_4 < ((rd_L6 l3 x14_3).length : Int) then (if (((rd_T62 t284 x19_4).f2) != (rdOf false (rd_L6 l3 x14_3) x19_4)) = true then (none) else (if x19_4 < (x274000_3.length : Int) then (if ((rd_T62 t284 x19_4).f0) < ((rd_T62 x274000_3 x19_4).f0) then (none) else (limits.l1 k4 a1 l2 l3 a4 x13_3 x14_3 (t277.length : Int) x18_4 (wrap64 (x19_4 + 1)) a0_0 a0_1 x274000_3 x274001_3 x274002_3 t284 t287 t288)) else (none))) else (none)) else (none)) else (none)) = some r:=by rw [if_neg (show ¬ (false = true) by decide)] at H;exact H
          clear H
          have H:=H1
          clear H1
          by_cases c68 : 0 ≤ x14_3
          rotate_left
          ·rw [if_neg c68] at H
           exact absurd H (by simp)
          rw [if_pos c68] at H
          have c68b0 : decide (0 ≤ x14_3) = true:=decide_eq_true c68
          clear c68
          by_cases c69 : x14_3 < (l3.length : Int)
          rotate_left
          ·rw [if_neg c69] at H
           exact absurd H (by simp)
          rw [if_pos c69] at H
          have c69b0 : decide (x14_3 < (l3.length : Int)) = true:=decide_eq_true c69
          clear c69
          by_cases c70 : x19_4 < ((rd_L6 l3 x14_3).length : Int)
          rotate_left
          ·rw [if_neg c70] at H
           exact absurd H (by simp)
          rw [if_pos c70] at H
          have c70b0 : decide (x19_4 < ((rd_L6 l3 x14_3).length : Int)) = true:=decide_eq_true c70
          clear c70
          by_cases c71 : (((rd_T62 t284 x19_4).f2) != (rdOf false (rd_L6 l3 x14_3) x19_4)) = true
          ·rw [if_pos c71] at H
           exact absurd H (by simp)
          rw [if_neg c71] at H
          have c71b0 : (((rd_T62 t284 x19_4).f2) != (rdOf false (rd_L6 l3 x14_3) x19_4)) = false:=by simpa using c71
          (try (have c71b1 : decide (((rd_T62 t284 x19_4).f2) = (rdOf false (rd_L6 l3 x14_3) x19_4)) = true:=by simpa using c71))
          (try (have c71b2 : (((rd_T62 t284 x19_4).f2) == (rdOf false (rd_L6 l3 x14_3) x19_4)) = true:=by simpa using c71))
          clear c71
          by_cases c72 : x19_4 < (x274000_3.length : Int)
          rotate_left
          ·rw [if_neg c72] at H
           exact absurd H (by simp)
          rw [if_pos c72] at H
          have c72b0 : decide (x19_4 < (x274000_3.length : Int)) = true:=decide_eq_true c72
          clear c72
          by_cases c73 : ((rd_T62 t284 x19_4).f0) < ((rd_T62 x274000_3 x19_4).f0)
          ·rw [if_pos c73] at H
           exact absurd H (by simp)
          rw [if_neg c73] at H
          have c73b0 : decide (((rd_T62 t284 x19_4).f0) < ((rd_T62 x274000_3 x19_4).f0)) = false:=decide_eq_false c73
          clear c73
          have H':=Aside0.mk H
          clear H
          have hnb74:=NB290_265.out
          have hnc74:=NB265_290.out
          have hnb75:=NB290_273.out
          have hnc75:=NB273_290.out
          have hcz76_0 : wr.cell? ⟨gb290,0,none⟩ = some (.slice Ao48 t284.length co48):=(blk_cell BK290.out 0).trans rfl
          have hcz76_1 : wr.cell? ⟨gb290,1,none⟩ = some (.int .i64 t287):=(blk_cell BK290.out 1).trans rfl
          have hcz76_2 : wr.cell? ⟨gb290,2,none⟩ = some (.int .i64 t288):=(blk_cell BK290.out 2).trans rfl
          have hfz76_0:=blk_frozen BK290.out 0
          have hfz76_1:=blk_frozen BK290.out 1
          have hfz76_2:=blk_frozen BK290.out 2
          have p292 : 0 ≤ (x19_4 : Int):=of_decide_eq_true (by first|(with_reducible assumption)|assumption)
          have q292 : x19_4 < (t284.length : Int):=of_decide_eq_true (by first|(with_reducible assumption)|assumption)
          obtain ⟨ad292,e292,hx292_0,hx292_1,hx292_2⟩:=at_T62 (Kd.R_reads' HO_291000.out).2.2 x19_4 p292 q292
          (try rw [← Nbq54.out] at hx292_1)
          (try rw [← Nbq54.out] at hx292_2)
          cases e292
          replace p292:=eq_true p292
          replace q292:=eq_true q292
          try go_wp2
          have n0_:=Aside0.mk (Kd.R_drew HO_274000.out)
          have n1_:=Aside0.mk (Kd.R_drew HO_291000.out)
          have n2_:=Aside0.mk (blk_drew BK265.out)
          have n3_:=Aside0.mk (blk_drew BK273.out)
          have n4_:=Aside0.mk (blk_drew BK290.out)
          have n5_:=Aside0.mk (below_drew1 HB.out)
          clear HO_274000
          clear HO_291000
          clear BK265
          clear BK273
          clear BK290
          clear HB
          have HO_274000:=n0_
          have HO_291000:=n1_
          have BK265:=n2_
          have BK273:=n3_
          have BK290:=n4_
          have HB:=n5_
          clear n0_ n1_ n2_ n3_ n4_ n5_
          have p301 : 0 ≤ (x19_4 : Int):=of_decide_eq_true (by first|(with_reducible assumption)|assumption)
          have q301 : x19_4 < (t284.length : Int):=of_decide_eq_true (by first|(with_reducible assumption)|assumption)
          obtain ⟨ad301,e301,hx301_0,hx301_1,hx301_2⟩:=at_T62 (Kd.R_reads' HO_291000.out).2.2 x19_4 p301 q301
          (try rw [← Nbq54.out] at hx301_1)
          (try rw [← Nbq54.out] at hx301_2)
          obtain rfl : ad292 = ad301:=(by injection e301)
          replace p301:=eq_true p301
          replace q301:=eq_true q301
          have p302 : 0 ≤ (x19_4 : Int):=of_decide_eq_true (by first|(with_reducible assumption)|assumption)
          have q302 : x19_4 < (t284.length : Int):=of_decide_eq_true (by first|(with_reducible assumption)|assumption)
          obtain ⟨ad302,e302,hx302_0,hx302_1,hx302_2⟩:=at_T62 (Kd.R_reads' HO_291000.out).2.2 x19_4 p302 q302
          (try rw [← Nbq54.out] at hx302_1)
          (try rw [← Nbq54.out] at hx302_2)
          obtain rfl : ad292 = ad302:=(by injection e302)
          replace p302:=eq_true p302
          replace q302:=eq_true q302
          have p303 : 0 ≤ (x14_3 : Int):=of_decide_eq_true (by first|(with_reducible assumption)|assumption)
          have q303 : x14_3 < (l3.length : Int):=of_decide_eq_true (by first|(with_reducible assumption)|assumption)
          obtain ⟨ad303,A303_0,c303_0,e303,hx303_0,hl303_0,hi303_0⟩:=at_L6 HR3.out x14_3 p303 q303
          have hw303_0:=hx303_0
          obtain rfl : ad283 = ad303:=(by injection e303)
          replace hx303_0:=(HB.out.cell (World.block_lt_of_cell? w _ hx303_0)).trans hx303_0
          have HR303_0:=Aside0.mk hi303_0
          have HC303_0:=Aside0.mk hl303_0
          clear hi303_0 hl303_0
          replace p303:=eq_true p303
          replace q303:=eq_true q303
          have p304 : 0 ≤ (x19_4 : Int):=of_decide_eq_true (by first|(with_reducible assumption)|assumption)
          have q304 : x19_4 < ((rd_L6 l3 x14_3).length : Int):=of_decide_eq_true (by first|(with_reducible assumption)|assumption)
          obtain ⟨ad304,e304,hx304_0⟩:=Kd.at_bool HR303_0.out x19_4 p304 q304
          have hw304_0:=hx304_0
          (try rw [← Nbq54.out] at hx304_0)
          (try rw [← Nbq54.out] at hw304_0)
          cases e304
          replace hx304_0:=(HB.out.cell (World.block_lt_of_cell? w _ hx304_0)).trans hx304_0
          replace p304:=eq_true p304
          replace q304:=eq_true q304
          have p305 : 0 ≤ (x19_4 : Int):=of_decide_eq_true (by first|(with_reducible assumption)|assumption)
          have q305 : x19_4 < (t284.length : Int):=of_decide_eq_true (by first|(with_reducible assumption)|assumption)
          obtain ⟨ad305,e305,hx305_0,hx305_1,hx305_2⟩:=at_T62 (Kd.R_reads' HO_291000.out).2.2 x19_4 p305 q305
          (try rw [← Nbq54.out] at hx305_1)
          (try rw [← Nbq54.out] at hx305_2)
          obtain rfl : ad292 = ad305:=(by injection e305)
          replace p305:=eq_true p305
          replace q305:=eq_true q305
          have p306 : 0 ≤ (x19_4 : Int):=of_decide_eq_true (by first|(with_reducible assumption)|assumption)
          have q306 : x19_4 < (x274000_3.length : Int):=of_decide_eq_true (by first|(with_reducible assumption)|assumption)
          obtain ⟨ad306,e306,hx306_0,hx306_1,hx306_2⟩:=at_T62 (Kd.R_reads' HO_274000.out).2.2 x19_4 p306 q306
          (try rw [← Nbq54.out] at hx306_1)
          (try rw [← Nbq54.out] at hx306_2)
          cases e306
          replace p306:=eq_true p306
          replace q306:=eq_true q306
          refine start_ (n:=46) (S:=fun w' => w'.cell? ⟨gb290,0,none⟩ = some (.slice (some ad292) t284.length co48)∧w'.cell? ⟨gb290,1,none⟩ = some (.int .i64 t287)∧w'.cell? ⟨gb290,2,none⟩ = some (.int .i64 t288)∧w'.cell? ⟨gb273,0,none⟩ = some (.slice (some ad306) x274000_3.length co40)∧w'.cell? ⟨gb273,1,none⟩ = some (.int .i64 x274001_3)∧w'.cell? ⟨gb273,2,none⟩ = some (.int .i64 x274002_3)∧w'.cell? (ad292.add ((x19_4).toNat * 3)) = some (.int .i64 ((rd_T62 t284 x19_4).f0))∧w'.cell? ⟨(ad292.add ((x19_4).toNat * 3)).block,(ad292.add ((x19_4).toNat * 3)).off + 1,none⟩ = some (.bool (false))∧w'.cell? ⟨(ad292.add ((x19_4).toNat * 3)).block,(ad292.add ((x19_4).toNat * 3)).off + 2,none⟩ = some (.bool ((rd_T62 t284 x19_4).f2))∧w'.cell? (ad292.add ((x19_4).toNat * 3)) = some (.int .i64 ((rd_T62 t284 x19_4).f0))∧w'.cell? ⟨(ad292.add ((x19_4).toNat * 3)).block,(ad292.add ((x19_4).toNat * 3)).off + 1,none⟩ = some (.bool (false))∧w'.cell? ⟨(ad292.add ((x19_4).toNat * 3)).block,(ad292.add ((x19_4).toNat * 3)).off + 2,none⟩ = some (.bool ((rd_T62 t284 x19_4).f2))∧w'.cell? (ad283.add (x14_3).toNat) = some (.slice (some ad304) (rd_L6 l3 x14_3).length c303_0)∧w'.cell? (ad304.add (x19_4).toNat) = some (.bool (rdOf false (rd_L6 l3 x14_3) x19_4))∧w'.cell? (ad292.add ((x19_4).toNat * 3)) = some (.int .i64 ((rd_T62 t284 x19_4).f0))∧w'.cell? ⟨(ad292.add ((x19_4).toNat * 3)).block,(ad292.add ((x19_4).toNat * 3)).off + 1,none⟩ = some (.bool (false))∧w'.cell? ⟨(ad292.add ((x19_4).toNat * 3)).block,(ad292.add ((x19_4).toNat * 3)).off + 2,none⟩ = some (.bool ((rd_T62 t284 x19_4).f2))∧w'.cell? (ad306.add ((x19_4).toNat * 3)) = some (.int .i64 ((rd_T62 x274000_3 x19_4).f0))∧w'.cell? ⟨(ad306.add ((x19_4).toNat * 3)).block,(ad306.add ((x19_4).toNat * 3)).off + 1,none⟩ = some (.bool ((rd_T62 x274000_3 x19_4).f1))∧w'.cell? ⟨(ad306.add ((x19_4).toNat * 3)).block,(ad306.add ((x19_4).toNat * 3)).off + 2,none⟩ = some (.bool ((rd_T62 x274000_3 x19_4).f2))) (ds:=[]) #[false,false,false,false,false,false,false,false,false,false,false,false,false,false,false,false,false,false,false,false,false,false,false,false,false,false,false,false,false,false,false,false,false,false,false,false,false,false,false,false,false,false,false,false,false,false] (by kernel_rfl) rfl rfl ⟨(blk_cell BK290.out 0).trans rfl,(blk_cell BK290.out 1).trans rfl,(blk_cell BK290.out 2).trans rfl,(blk_cell BK273.out 0).trans rfl,(blk_cell BK273.out 1).trans rfl,(blk_cell BK273.out 2).trans rfl,hx301_0,hx301_1,hx301_2,hx302_0,hx302_1,hx302_2,((HB.out.cell (World.block_lt_of_cell? w _ hw303_0)).trans hw303_0),((HB.out.cell (World.block_lt_of_cell? w _ hw304_0)).trans hw304_0),hx305_0,hx305_1,hx305_2,hx306_0,hx306_1,hx306_2⟩ (fun hHeld => ?_);refine with_tabW limits.tab22 limits.bits22 (fun HT_ HW_ => ?_)
          generalize wr.drew = w77 at HO_274000 HO_291000 BK265 BK273 BK290 HB HR303_0 hx301_0 hx301_1 hx301_2 hx302_0 hx302_1 hx302_2 hx303_0 hx304_0 hx305_0 hx305_1 hx305_2 hx306_0 hx306_1 hx306_2 hHeld ⊢
          refine pure_ (i:=0) (N:=some 106) (v:=?_) (a':=?_) #[true,false,false,false,false,false,false,false,false,false,false,false,false,false,false,false,false,false,false,false,false,false,false,false,false,false,false,false,false,false,false,false,false,false,false,false,false,false,false,false,false,false,false,false,false,false] rfl rfl (any_of HT_.out (by kernel_rfl)) (fun _ _ _ h => h) (Or.inl ⟨by rfl,?_⟩) ?_ ?_
          rotate_left;(intro w';go_simp;with_reducible rfl);rotate_left;(simp only [Act.put,setIfInBounds_toArray,set_cons_zero,set_cons_succ,i64_w,i32_w];rfl)
          refine pure_ (i:=2) (N:=some 108) (v:=?_) (a':=?_) #[true,false,true,false,false,false,false,false,false,false,false,false,false,false,false,false,false,false,false,false,false,false,false,false,false,false,false,false,false,false,false,false,false,false,false,false,false,false,false,false,false,false,false,false,false,false] rfl rfl (any_of HT_.out (by kernel_rfl)) (fun _ _ _ h => h) (Or.inl ⟨by rfl,?_⟩) ?_ ?_
          rotate_left;(intro w';go_simp;with_reducible rfl);rotate_left;(simp only [Act.put,setIfInBounds_toArray,set_cons_zero,set_cons_succ,i64_w,i32_w];rfl)
          refine take_ (i:=1) (N:=some 107) (v:=?_) (a':=?_) #[true,true,true,false,false,false,false,false,false,false,false,false,false,false,false,false,false,false,false,false,false,false,false,false,false,false,false,false,false,false,false,false,false,false,false,false,false,false,false,false,false,false,false,false,false,false] rfl rfl (take_ofW HT_.out HW_.out (by kernel_rfl)) (fun _ _ _ h => h) (Or.inl ⟨by rfl,?_⟩) hHeld ?_ ?_
          rotate_left;(rintro w' ⟨s0,s1,s2,s3,s4,s5,s6,s7,s8,s9,s10,s11,s12,s13,s14,s15,s16,s17,s18,s19⟩;go_simp;with_reducible rfl);rotate_left;(simp only [Act.put,setIfInBounds_toArray,set_cons_zero,set_cons_succ,i64_w,i32_w];rfl)
          refine pure_ (i:=3) (N:=some 109) (v:=?_) (a':=?_) #[true,true,true,true,false,false,false,false,false,false,false,false,false,false,false,false,false,false,false,false,false,false,false,false,false,false,false,false,false,false,false,false,false,false,false,false,false,false,false,false,false,false,false,false,false,false] rfl rfl (any_of HT_.out (by kernel_rfl)) (fun _ _ _ h => h) (Or.inl ⟨by rfl,?_⟩) ?_ ?_
          rotate_left;(intro w';go_simp;with_reducible rfl);rotate_left;(simp only [Act.put,setIfInBounds_toArray,set_cons_zero,set_cons_succ,i64_w,i32_w];rfl)
          refine pure_ (i:=4) (N:=some 110) (v:=?_) (a':=?_) #[true,true,true,true,true,false,false,false,false,false,false,false,false,false,false,false,false,false,false,false,false,false,false,false,false,false,false,false,false,false,false,false,false,false,false,false,false,false,false,false,false,false,false,false,false,false] rfl rfl (any_of HT_.out (by kernel_rfl)) (fun _ _ _ h => h) (Or.inl ⟨by rfl,?_⟩) ?_ ?_
          rotate_left;(intro w';go_simp;with_reducible rfl);rotate_left;(simp only [Act.put,setIfInBounds_toArray,set_cons_zero,set_cons_succ,i64_w,i32_w];rfl)
          refine take_ (i:=5) (N:=some 111) (v:=?_) (a':=?_) #[true,true,true,true,true,true,false,false,false,false,false,false,false,false,false,false,false,false,false,false,false,false,false,false,false,false,false,false,false,false,false,false,false,false,false,false,false,false,false,false,false,false,false,false,false,false] rfl rfl (take_ofW HT_.out HW_.out (by kernel_rfl)) (fun _ _ _ h => h) (Or.inl ⟨by rfl,?_⟩) hHeld ?_ ?_
          rotate_left;(rintro w' ⟨s0,s1,s2,s3,s4,s5,s6,s7,s8,s9,s10,s11,s12,s13,s14,s15,s16,s17,s18,s19⟩;go_simp;with_reducible rfl);rotate_left;(simp only [Act.put,setIfInBounds_toArray,set_cons_zero,set_cons_succ,i64_w,i32_w];rfl)
          refine pure_ (i:=6) (N:=some 112) (v:=?_) (a':=?_) #[true,true,true,true,true,true,true,false,false,false,false,false,false,false,false,false,false,false,false,false,false,false,false,false,false,false,false,false,false,false,false,false,false,false,false,false,false,false,false,false,false,false,false,false,false,false] rfl rfl (any_of HT_.out (by kernel_rfl)) (fun _ _ _ h => h) (Or.inl ⟨by rfl,?_⟩) ?_ ?_
          rotate_left;(intro w';go_simp;with_reducible rfl);rotate_left;(simp only [Act.put,setIfInBounds_toArray,set_cons_zero,set_cons_succ,i64_w,i32_w];rfl)
          refine pure_ (i:=7) (N:=some 113) (v:=undef) (a':=?_) #[true,true,true,true,true,true,true,true,false,false,false,false,false,false,false,false,false,false,false,false,false,false,false,false,false,false,false,false,false,false,false,false,false,false,false,false,false,false,false,false,false,false,false,false,false,false] rfl rfl (any_of HT_.out (by kernel_rfl)) (fun _ _ _ h => h) (Or.inr ⟨by rfl,rfl⟩) ?_ ?_
          rotate_left
          ·simp only [Act.put,setIfInBounds_toArray,set_cons_zero,set_cons_succ,i64_w,i32_w]
           rfl
          refine pure_ (i:=8) (N:=some 114) (v:=undef) (a':=?_) #[true,true,true,true,true,true,true,true,true,false,false,false,false,false,false,false,false,false,false,false,false,false,false,false,false,false,false,false,false,false,false,false,false,false,false,false,false,false,false,false,false,false,false,false,false,false] rfl rfl (any_of HT_.out (by kernel_rfl)) (fun _ _ _ h => h) (Or.inr ⟨by rfl,rfl⟩) ?_ ?_
          rotate_left
          ·simp only [Act.put,setIfInBounds_toArray,set_cons_zero,set_cons_succ,i64_w,i32_w]
           rfl
          refine pure_ (i:=9) (N:=some 115) (v:=undef) (a':=?_) #[true,true,true,true,true,true,true,true,true,true,false,false,false,false,false,false,false,false,false,false,false,false,false,false,false,false,false,false,false,false,false,false,false,false,false,false,false,false,false,false,false,false,false,false,false,false] rfl rfl (any_of HT_.out (by kernel_rfl)) (fun _ _ _ h => h) (Or.inr ⟨by rfl,rfl⟩) ?_ ?_
          rotate_left
          ·simp only [Act.put,setIfInBounds_toArray,set_cons_zero,set_cons_succ,i64_w,i32_w]
           rfl
          refine pure_ (i:=10) (N:=some 116) (v:=undef) (a':=?_) #[true,true,true,true,true,true,true,true,true,true,true,false,false,false,false,false,false,false,false,false,false,false,false,false,false,false,false,false,false,false,false,false,false,false,false,false,false,false,false,false,false,false,false,false,false,false] rfl rfl (any_of HT_.out (by kernel_rfl)) (fun _ _ _ h => h) (Or.inr ⟨by rfl,rfl⟩) ?_ ?_
          rotate_left
          ·simp only [Act.put,setIfInBounds_toArray,set_cons_zero,set_cons_succ,i64_w,i32_w]
           rfl
          refine pure_ (i:=11) (N:=some 117) (v:=undef) (a':=?_) #[true,true,true,true,true,true,true,true,true,true,true,true,false,false,false,false,false,false,false,false,false,false,false,false,false,false,false,false,false,false,false,false,false,false,false,false,false,false,false,false,false,false,false,false,false,false] rfl rfl (any_of HT_.out (by kernel_rfl)) (fun _ _ _ h => h) (Or.inr ⟨by rfl,rfl⟩) ?_ ?_
          rotate_left
          ·simp only [Act.put,setIfInBounds_toArray,set_cons_zero,set_cons_succ,i64_w,i32_w]
           rfl
          refine pure_ (i:=12) (N:=some 118) (v:=undef) (a':=?_) #[true,true,true,true,true,true,true,true,true,true,true,true,true,false,false,false,false,false,false,false,false,false,false,false,false,false,false,false,false,false,false,false,false,false,false,false,false,false,false,false,false,false,false,false,false,false] rfl rfl (any_of HT_.out (by kernel_rfl)) (fun _ _ _ h => h) (Or.inr ⟨by rfl,rfl⟩) ?_ ?_
          rotate_left
          ·simp only [Act.put,setIfInBounds_toArray,set_cons_zero,set_cons_succ,i64_w,i32_w]
           rfl
          refine pure_ (i:=13) (N:=some 119) (v:=undef) (a':=?_) #[true,true,true,true,true,true,true,true,true,true,true,true,true,true,false,false,false,false,false,false,false,false,false,false,false,false,false,false,false,false,false,false,false,false,false,false,false,false,false,false,false,false,false,false,false,false] rfl rfl (any_of HT_.out (by kernel_rfl)) (fun _ _ _ h => h) (Or.inr ⟨by rfl,rfl⟩) ?_ ?_
          rotate_left
          ·simp only [Act.put,setIfInBounds_toArray,set_cons_zero,set_cons_succ,i64_w,i32_w]
           rfl
          refine pure_ (i:=14) (N:=some 120) (v:=?_) (a':=?_) #[true,true,true,true,true,true,true,true,true,true,true,true,true,true,true,false,false,false,false,false,false,false,false,false,false,false,false,false,false,false,false,false,false,false,false,false,false,false,false,false,false,false,false,false,false,false] rfl rfl (any_of HT_.out (by kernel_rfl)) (fun _ _ _ h => h) (Or.inl ⟨by rfl,?_⟩) ?_ ?_
          rotate_left;(intro w';go_simp;with_reducible rfl);rotate_left;(simp only [Act.put,setIfInBounds_toArray,set_cons_zero,set_cons_succ,i64_w,i32_w];rfl)
          refine pure_ (i:=15) (N:=some 121) (v:=?_) (a':=?_) #[true,true,true,true,true,true,true,true,true,true,true,true,true,true,true,true,false,false,false,false,false,false,false,false,false,false,false,false,false,false,false,false,false,false,false,false,false,false,false,false,false,false,false,false,false,false] rfl rfl (any_of HT_.out (by kernel_rfl)) (fun _ _ _ h => h) (Or.inl ⟨by rfl,?_⟩) ?_ ?_
          rotate_left;(intro w';go_simp;with_reducible rfl);rotate_left;(simp only [Act.put,setIfInBounds_toArray,set_cons_zero,set_cons_succ,i64_w,i32_w];rfl)
          refine pure_ (i:=16) (N:=some 122) (v:=?_) (a':=?_) #[true,true,true,true,true,true,true,true,true,true,true,true,true,true,true,true,true,false,false,false,false,false,false,false,false,false,false,false,false,false,false,false,false,false,false,false,false,false,false,false,false,false,false,false,false,false] rfl rfl (any_of HT_.out (by kernel_rfl)) (fun _ _ _ h => h) (Or.inl ⟨by rfl,?_⟩) ?_ ?_
          rotate_left;(intro w';go_simp;with_reducible rfl);rotate_left;(simp only [Act.put,setIfInBounds_toArray,set_cons_zero,set_cons_succ,i64_w,i32_w];rfl)
          refine pure_ (i:=18) (N:=some 124) (v:=?_) (a':=?_) #[true,true,true,true,true,true,true,true,true,true,true,true,true,true,true,true,true,false,true,false,false,false,false,false,false,false,false,false,false,false,false,false,false,false,false,false,false,false,false,false,false,false,false,false,false,false] rfl rfl (any_of HT_.out (by kernel_rfl)) (fun _ _ _ h => h) (Or.inl ⟨by rfl,?_⟩) ?_ ?_
          rotate_left;(intro w';go_simp;with_reducible rfl);rotate_left;(simp only [Act.put,setIfInBounds_toArray,set_cons_zero,set_cons_succ,i64_w,i32_w];rfl)
          refine pure_ (i:=22) (N:=some 128) (v:=?_) (a':=?_) #[true,true,true,true,true,true,true,true,true,true,true,true,true,true,true,true,true,false,true,false,false,false,true,false,false,false,false,false,false,false,false,false,false,false,false,false,false,false,false,false,false,false,false,false,false,false] rfl rfl (any_of HT_.out (by kernel_rfl)) (fun _ _ _ h => h) (Or.inl ⟨by rfl,?_⟩) ?_ ?_
          rotate_left;(intro w';go_simp;with_reducible rfl);rotate_left;(simp only [Act.put,setIfInBounds_toArray,set_cons_zero,set_cons_succ,i64_w,i32_w];rfl)
          refine pure_ (i:=23) (N:=some 129) (v:=?_) (a':=?_) #[true,true,true,true,true,true,true,true,true,true,true,true,true,true,true,true,true,false,true,false,false,false,true,true,false,false,false,false,false,false,false,false,false,false,false,false,false,false,false,false,false,false,false,false,false,false] rfl rfl (any_of HT_.out (by kernel_rfl)) (fun _ _ _ h => h) (Or.inl ⟨by rfl,?_⟩) ?_ ?_
          rotate_left;(intro w';go_simp;with_reducible rfl);rotate_left;(simp only [Act.put,setIfInBounds_toArray,set_cons_zero,set_cons_succ,i64_w,i32_w];rfl)
          refine pure_ (i:=24) (N:=some 130) (v:=?_) (a':=?_) #[true,true,true,true,true,true,true,true,true,true,true,true,true,true,true,true,true,false,true,false,false,false,true,true,true,false,false,false,false,false,false,false,false,false,false,false,false,false,false,false,false,false,false,false,false,false] rfl rfl (any_of HT_.out (by kernel_rfl)) (fun _ _ _ h => h) (Or.inl ⟨by rfl,?_⟩) ?_ ?_
          rotate_left;(intro w';go_simp;with_reducible rfl);rotate_left;(simp only [Act.put,setIfInBounds_toArray,set_cons_zero,set_cons_succ,i64_w,i32_w];rfl)
          refine pure_ (i:=26) (N:=some 132) (v:=?_) (a':=?_) #[true,true,true,true,true,true,true,true,true,true,true,true,true,true,true,true,true,false,true,false,false,false,true,true,true,false,true,false,false,false,false,false,false,false,false,false,false,false,false,false,false,false,false,false,false,false] rfl rfl (any_of HT_.out (by kernel_rfl)) (fun _ _ _ h => h) (Or.inl ⟨by rfl,?_⟩) ?_ ?_
          rotate_left;(intro w';go_simp;with_reducible rfl);rotate_left;(simp only [Act.put,setIfInBounds_toArray,set_cons_zero,set_cons_succ,i64_w,i32_w];rfl)
          refine take_ (i:=17) (N:=some 123) (v:=?_) (a':=?_) #[true,true,true,true,true,true,true,true,true,true,true,true,true,true,true,true,true,true,true,false,false,false,true,true,true,false,true,false,false,false,false,false,false,false,false,false,false,false,false,false,false,false,false,false,false,false] rfl rfl (take_ofW HT_.out HW_.out (by kernel_rfl)) (fun _ _ _ h => h) (Or.inl ⟨by rfl,?_⟩) hHeld ?_ ?_
          rotate_left;(rintro w' ⟨s0,s1,s2,s3,s4,s5,s6,s7,s8,s9,s10,s11,s12,s13,s14,s15,s16,s17,s18,s19⟩;go_simp;with_reducible rfl);rotate_left;(simp only [Act.put,setIfInBounds_toArray,set_cons_zero,set_cons_succ,i64_w,i32_w];rfl)
          refine pure_ (i:=19) (N:=some 125) (v:=?_) (a':=?_) #[true,true,true,true,true,true,true,true,true,true,true,true,true,true,true,true,true,true,true,true,false,false,true,true,true,false,true,false,false,false,false,false,false,false,false,false,false,false,false,false,false,false,false,false,false,false] rfl rfl (any_of HT_.out (by kernel_rfl)) (fun _ _ _ h => h) (Or.inl ⟨by rfl,?_⟩) ?_ ?_
          rotate_left;(intro w';go_simp;with_reducible rfl);rotate_left;(simp only [Act.put,setIfInBounds_toArray,set_cons_zero,set_cons_succ,i64_w,i32_w];rfl)
          refine pure_ (i:=20) (N:=some 126) (v:=?_) (a':=?_) #[true,true,true,true,true,true,true,true,true,true,true,true,true,true,true,true,true,true,true,true,true,false,true,true,true,false,true,false,false,false,false,false,false,false,false,false,false,false,false,false,false,false,false,false,false,false] rfl rfl (any_of HT_.out (by kernel_rfl)) (fun _ _ _ h => h) (Or.inl ⟨by rfl,?_⟩) ?_ ?_
          rotate_left;(intro w';go_simp;with_reducible rfl);rotate_left;(simp only [Act.put,setIfInBounds_toArray,set_cons_zero,set_cons_succ,i64_w,i32_w];rfl)
          refine take_ (i:=21) (N:=some 127) (v:=?_) (a':=?_) #[true,true,true,true,true,true,true,true,true,true,true,true,true,true,true,true,true,true,true,true,true,true,true,true,true,false,true,false,false,false,false,false,false,false,false,false,false,false,false,false,false,false,false,false,false,false] rfl rfl (take_ofW HT_.out HW_.out (by kernel_rfl)) (fun _ _ _ h => h) (Or.inl ⟨by rfl,?_⟩) hHeld ?_ ?_
          rotate_left;(rintro w' ⟨s0,s1,s2,s3,s4,s5,s6,s7,s8,s9,s10,s11,s12,s13,s14,s15,s16,s17,s18,s19⟩;go_simp;with_reducible rfl);rotate_left;(simp only [Act.put,setIfInBounds_toArray,set_cons_zero,set_cons_succ,i64_w,i32_w];rfl)
          refine take_ (i:=25) (N:=some 131) (v:=?_) (a':=?_) #[true,true,true,true,true,true,true,true,true,true,true,true,true,true,true,true,true,true,true,true,true,true,true,true,true,true,true,false,false,false,false,false,false,false,false,false,false,false,false,false,false,false,false,false,false,false] rfl rfl (take_ofW HT_.out HW_.out (by kernel_rfl)) (fun _ _ _ h => h) (Or.inl ⟨by rfl,?_⟩) hHeld ?_ ?_
          rotate_left;(rintro w' ⟨s0,s1,s2,s3,s4,s5,s6,s7,s8,s9,s10,s11,s12,s13,s14,s15,s16,s17,s18,s19⟩;go_simp;with_reducible rfl);rotate_left;(simp only [Act.put,setIfInBounds_toArray,set_cons_zero,set_cons_succ,i64_w,i32_w];rfl)
          refine pure_ (i:=27) (N:=some 133) (v:=?_) (a':=?_) #[true,true,true,true,true,true,true,true,true,true,true,true,true,true,true,true,true,true,true,true,true,true,true,true,true,true,true,true,false,false,false,false,false,false,false,false,false,false,false,false,false,false,false,false,false,false] rfl rfl (any_of HT_.out (by kernel_rfl)) (fun _ _ _ h => h) (Or.inl ⟨by rfl,?_⟩) ?_ ?_
          rotate_left;(intro w';go_simp;with_reducible rfl);rotate_left;(simp only [Act.put,setIfInBounds_toArray,set_cons_zero,set_cons_succ,i64_w,i32_w];rfl)
          refine take_ (i:=28) (N:=some 134) (v:=?_) (a':=?_) #[true,true,true,true,true,true,true,true,true,true,true,true,true,true,true,true,true,true,true,true,true,true,true,true,true,true,true,true,true,false,false,false,false,false,false,false,false,false,false,false,false,false,false,false,false,false] rfl rfl (take_ofW HT_.out HW_.out (by kernel_rfl)) (fun _ _ _ h => h) (Or.inl ⟨by rfl,?_⟩) hHeld ?_ ?_
          rotate_left;(rintro w' ⟨s0,s1,s2,s3,s4,s5,s6,s7,s8,s9,s10,s11,s12,s13,s14,s15,s16,s17,s18,s19⟩;go_simp;with_reducible rfl);rotate_left;(simp only [Act.put,setIfInBounds_toArray,set_cons_zero,set_cons_succ,i64_w,i32_w];rfl)
          refine pure_ (i:=29) (N:=some 135) (v:=?_) (a':=?_) #[true,true,true,true,true,true,true,true,true,true,true,true,true,true,true,true,true,true,true,true,true,true,true,true,true,true,true,true,true,true,false,false,false,false,false,false,false,false,false,false,false,false,false,false,false,false] rfl rfl (any_of HT_.out (by kernel_rfl)) (fun _ _ _ h => h) (Or.inl ⟨by rfl,?_⟩) ?_ ?_
          rotate_left;(intro w';go_simp;with_reducible rfl);rotate_left;(simp only [Act.put,setIfInBounds_toArray,set_cons_zero,set_cons_succ,i64_w,i32_w];rfl)
          refine pure_ (i:=30) (N:=some 136) (v:=?_) (a':=?_) #[true,true,true,true,true,true,true,true,true,true,true,true,true,true,true,true,true,true,true,true,true,true,true,true,true,true,true,true,true,true,true,false,false,false,false,false,false,false,false,false,false,false,false,false,false,false] rfl rfl (any_of HT_.out (by kernel_rfl)) (fun _ _ _ h => h) (Or.inl ⟨by rfl,?_⟩) ?_ ?_
          rotate_left;(intro w';go_simp;with_reducible rfl);rotate_left;(simp only [Act.put,setIfInBounds_toArray,set_cons_zero,set_cons_succ,i64_w,i32_w];rfl)
          refine pure_ (i:=31) (N:=some 137) (v:=?_) (a':=?_) #[true,true,true,true,true,true,true,true,true,true,true,true,true,true,true,true,true,true,true,true,true,true,true,true,true,true,true,true,true,true,true,true,false,false,false,false,false,false,false,false,false,false,false,false,false,false] rfl rfl (any_of HT_.out (by kernel_rfl)) (fun _ _ _ h => h) (Or.inl ⟨by rfl,?_⟩) ?_ ?_
          rotate_left;(intro w';go_simp;with_reducible rfl);rotate_left;(simp only [Act.put,setIfInBounds_toArray,set_cons_zero,set_cons_succ,i64_w,i32_w];rfl)
          refine pure_ (i:=32) (N:=some 138) (v:=?_) (a':=?_) #[true,true,true,true,true,true,true,true,true,true,true,true,true,true,true,true,true,true,true,true,true,true,true,true,true,true,true,true,true,true,true,true,true,false,false,false,false,false,false,false,false,false,false,false,false,false] rfl rfl (any_of HT_.out (by kernel_rfl)) (fun _ _ _ h => h) (Or.inl ⟨by rfl,?_⟩) ?_ ?_
          rotate_left;(intro w';go_simp;with_reducible rfl);rotate_left;(simp only [Act.put,setIfInBounds_toArray,set_cons_zero,set_cons_succ,i64_w,i32_w];rfl)
          refine pure_ (i:=34) (N:=some 140) (v:=?_) (a':=?_) #[true,true,true,true,true,true,true,true,true,true,true,true,true,true,true,true,true,true,true,true,true,true,true,true,true,true,true,true,true,true,true,true,true,false,true,false,false,false,false,false,false,false,false,false,false,false] rfl rfl (any_of HT_.out (by kernel_rfl)) (fun _ _ _ h => h) (Or.inl ⟨by rfl,?_⟩) ?_ ?_
          rotate_left;(intro w';go_simp;with_reducible rfl);rotate_left;(simp only [Act.put,setIfInBounds_toArray,set_cons_zero,set_cons_succ,i64_w,i32_w];rfl)
          refine pure_ (i:=38) (N:=some 144) (v:=?_) (a':=?_) #[true,true,true,true,true,true,true,true,true,true,true,true,true,true,true,true,true,true,true,true,true,true,true,true,true,true,true,true,true,true,true,true,true,false,true,false,false,false,true,false,false,false,false,false,false,false] rfl rfl (any_of HT_.out (by kernel_rfl)) (fun _ _ _ h => h) (Or.inl ⟨by rfl,?_⟩) ?_ ?_
          rotate_left;(intro w';go_simp;with_reducible rfl);rotate_left;(simp only [Act.put,setIfInBounds_toArray,set_cons_zero,set_cons_succ,i64_w,i32_w];rfl)
          refine pure_ (i:=40) (N:=some 146) (v:=?_) (a':=?_) #[true,true,true,true,true,true,true,true,true,true,true,true,true,true,true,true,true,true,true,true,true,true,true,true,true,true,true,true,true,true,true,true,true,false,true,false,false,false,true,false,true,false,false,false,false,false] rfl rfl (any_of HT_.out (by kernel_rfl)) (fun _ _ _ h => h) (Or.inl ⟨by rfl,?_⟩) ?_ ?_
          rotate_left;(intro w';go_simp;with_reducible rfl);rotate_left;(simp only [Act.put,setIfInBounds_toArray,set_cons_zero,set_cons_succ,i64_w,i32_w];rfl)
          refine take_ (i:=33) (N:=some 139) (v:=?_) (a':=?_) #[true,true,true,true,true,true,true,true,true,true,true,true,true,true,true,true,true,true,true,true,true,true,true,true,true,true,true,true,true,true,true,true,true,true,true,false,false,false,true,false,true,false,false,false,false,false] rfl rfl (take_ofW HT_.out HW_.out (by kernel_rfl)) (fun _ _ _ h => h) (Or.inl ⟨by rfl,?_⟩) hHeld ?_ ?_
          rotate_left;(rintro w' ⟨s0,s1,s2,s3,s4,s5,s6,s7,s8,s9,s10,s11,s12,s13,s14,s15,s16,s17,s18,s19⟩;go_simp;with_reducible rfl);rotate_left;(simp only [Act.put,setIfInBounds_toArray,set_cons_zero,set_cons_succ,i64_w,i32_w];rfl)
          refine pure_ (i:=35) (N:=some 141) (v:=?_) (a':=?_) #[true,true,true,true,true,true,true,true,true,true,true,true,true,true,true,true,true,true,true,true,true,true,true,true,true,true,true,true,true,true,true,true,true,true,true,true,false,false,true,false,true,false,false,false,false,false] rfl rfl (any_of HT_.out (by kernel_rfl)) (fun _ _ _ h => h) (Or.inl ⟨by rfl,?_⟩) ?_ ?_
          rotate_left;(intro w';go_simp;with_reducible rfl);rotate_left;(simp only [Act.put,setIfInBounds_toArray,set_cons_zero,set_cons_succ,i64_w,i32_w];rfl)
          refine pure_ (i:=36) (N:=some 142) (v:=?_) (a':=?_) #[true,true,true,true,true,true,true,true,true,true,true,true,true,true,true,true,true,true,true,true,true,true,true,true,true,true,true,true,true,true,true,true,true,true,true,true,true,false,true,false,true,false,false,false,false,false] rfl rfl (any_of HT_.out (by kernel_rfl)) (fun _ _ _ h => h) (Or.inl ⟨by rfl,?_⟩) ?_ ?_
          rotate_left;(intro w';go_simp;with_reducible rfl);rotate_left;(simp only [Act.put,setIfInBounds_toArray,set_cons_zero,set_cons_succ,i64_w,i32_w];rfl)
          refine take_ (i:=37) (N:=some 143) (v:=?_) (a':=?_) #[true,true,true,true,true,true,true,true,true,true,true,true,true,true,true,true,true,true,true,true,true,true,true,true,true,true,true,true,true,true,true,true,true,true,true,true,true,true,true,false,true,false,false,false,false,false] rfl rfl (take_ofW HT_.out HW_.out (by kernel_rfl)) (fun _ _ _ h => h) (Or.inl ⟨by rfl,?_⟩) hHeld ?_ ?_
          rotate_left;(rintro w' ⟨s0,s1,s2,s3,s4,s5,s6,s7,s8,s9,s10,s11,s12,s13,s14,s15,s16,s17,s18,s19⟩;go_simp;with_reducible rfl);rotate_left;(simp only [Act.put,setIfInBounds_toArray,set_cons_zero,set_cons_succ,i64_w,i32_w];rfl)
          refine take_ (i:=39) (N:=some 145) (v:=?_) (a':=?_) #[true,true,true,true,true,true,true,true,true,true,true,true,true,true,true,true,true,true,true,true,true,true,true,true,true,true,true,true,true,true,true,true,true,true,true,true,true,true,true,true,true,false,false,false,false,false] rfl rfl (take_ofW HT_.out HW_.out (by kernel_rfl)) (fun _ _ _ h => h) (Or.inl ⟨by rfl,?_⟩) hHeld ?_ ?_
          rotate_left;(rintro w' ⟨s0,s1,s2,s3,s4,s5,s6,s7,s8,s9,s10,s11,s12,s13,s14,s15,s16,s17,s18,s19⟩;go_simp;with_reducible rfl);rotate_left;(simp only [Act.put,setIfInBounds_toArray,set_cons_zero,set_cons_succ,i64_w,i32_w];rfl)
          refine pure_ (i:=41) (N:=some 147) (v:=?_) (a':=?_) #[true,true,true,true,true,true,true,true,true,true,true,true,true,true,true,true,true,true,true,true,true,true,true,true,true,true,true,true,true,true,true,true,true,true,true,true,true,true,true,true,true,true,false,false,false,false] rfl rfl (any_of HT_.out (by kernel_rfl)) (fun _ _ _ h => h) (Or.inl ⟨by rfl,?_⟩) ?_ ?_
          rotate_left;(intro w';go_simp;with_reducible rfl);rotate_left;(simp only [Act.put,setIfInBounds_toArray,set_cons_zero,set_cons_succ,i64_w,i32_w];rfl)
          refine pure_ (i:=42) (N:=some 148) (v:=?_) (a':=?_) #[true,true,true,true,true,true,true,true,true,true,true,true,true,true,true,true,true,true,true,true,true,true,true,true,true,true,true,true,true,true,true,true,true,true,true,true,true,true,true,true,true,true,true,false,false,false] rfl rfl (any_of HT_.out (by kernel_rfl)) (fun _ _ _ h => h) (Or.inl ⟨by rfl,?_⟩) ?_ ?_
          rotate_left;(intro w';go_simp;with_reducible rfl);rotate_left;(simp only [Act.put,setIfInBounds_toArray,set_cons_zero,set_cons_succ,i64_w,i32_w];rfl)
          refine take_ (i:=43) (N:=some 149) (v:=?_) (a':=?_) #[true,true,true,true,true,true,true,true,true,true,true,true,true,true,true,true,true,true,true,true,true,true,true,true,true,true,true,true,true,true,true,true,true,true,true,true,true,true,true,true,true,true,true,true,false,false] rfl rfl (take_ofW HT_.out HW_.out (by kernel_rfl)) (fun _ _ _ h => h) (Or.inl ⟨by rfl,?_⟩) hHeld ?_ ?_
          rotate_left;(rintro w' ⟨s0,s1,s2,s3,s4,s5,s6,s7,s8,s9,s10,s11,s12,s13,s14,s15,s16,s17,s18,s19⟩;go_simp;with_reducible rfl);rotate_left;(simp only [Act.put,setIfInBounds_toArray,set_cons_zero,set_cons_succ,i64_w,i32_w];rfl)
          refine pure_ (i:=44) (N:=some 150) (v:=?_) (a':=?_) #[true,true,true,true,true,true,true,true,true,true,true,true,true,true,true,true,true,true,true,true,true,true,true,true,true,true,true,true,true,true,true,true,true,true,true,true,true,true,true,true,true,true,true,true,true,false] rfl rfl (any_of HT_.out (by kernel_rfl)) (fun _ _ _ h => h) (Or.inl ⟨by rfl,?_⟩) ?_ ?_
          rotate_left;(intro w';go_simp;with_reducible rfl);rotate_left;(simp only [Act.put,setIfInBounds_toArray,set_cons_zero,set_cons_succ,i64_w,i32_w];rfl)
          refine pure_ (i:=45) (N:=some 151) (v:=?_) (a':=?_) #[true,true,true,true,true,true,true,true,true,true,true,true,true,true,true,true,true,true,true,true,true,true,true,true,true,true,true,true,true,true,true,true,true,true,true,true,true,true,true,true,true,true,true,true,true,true] rfl rfl (any_of HT_.out (by kernel_rfl)) (fun _ _ _ h => h) (Or.inl ⟨by rfl,?_⟩) ?_ ?_
          rotate_left;(intro w';go_simp;with_reducible rfl);rotate_left;(simp only [Act.put,setIfInBounds_toArray,set_cons_zero,set_cons_succ,i64_w,i32_w];rfl)
          refine done_ (done_of HT_.out (by kernel_rfl)) ?_
          try go_wp2
          go_roundg k4
          case measure => have:=HJ7.out;have:=HJ14.out;have:=HK3.out;have:=HK4.out;omega
          case rel => exact ⟨(x18_4),(wrap64 (x19_4 + 1)),(by first|rfl|(simp;done)|(simp [*];done)),(by first|rfl|(simp;done)|(simp [*];done)),H',⟨by have:=HJ7.out;have:=HJ14.out;have:=HK3.out;have:=HK4.out;omega⟩,⟨by (with_reducible repeat (first|apply Kd.R_alloc|apply Kd.R_drewN|apply Kd.R_drew));exact HO_274000.out⟩,⟨by (with_reducible repeat (first|apply Kd.R_alloc|apply Kd.R_drewN|apply Kd.R_drew));exact HO_291000.out⟩,⟨by (with_reducible repeat (first|refine blk_drewN ?_ _|refine blk_drew ?_|refine blk_alloc ?_ _));exact BK265.out⟩,⟨by (with_reducible repeat (first|refine blk_drewN ?_ _|refine blk_drew ?_|refine blk_alloc ?_ _));exact BK273.out⟩,⟨by (with_reducible repeat (first|refine blk_drewN ?_ _|refine blk_drew ?_|refine blk_alloc ?_ _));exact BK290.out⟩,⟨by repeat (first|(with_reducible first|exact HB.out|apply below_alloc|apply pw_below_drewN|apply below_drew1|refine below_set ?_ GE265.out|refine below_set ?_ GE273.out|refine below_set ?_ GE290.out)|exact HB.out)⟩⟩
         subst c55
         have H1 : (if 0 ≤ x14_3 then (if x14_3 < (l3.length : Int) then (if x19_4 < ((rd_L6 l3 x14_3).length : Int) then (if rdOf false (rd_L6 l3 x14_3) x19_4 = true then (none) else (if (((rd_T62 t284 x19_4).f2) != (rdOf false (rd_L6 l3 x14_3) x19_4)) = true then (none) else (if x19_4 < (x274000_3.length : Int) then (if ((rd_T62 t284 x19_4).f0) < ((rd_T62 x274000_3 x19_4).f0) then (none) else (limits.l1 k4 a1 l2 l3 a4 x13_3 x14_3 (t277.length : Int) (wrap64 (x18_4 + 1)) (wrap64 (x19_4 + 1)) a0_0 a0_1 x274000_3 x274001_3 x274002_3 t284 t287 t288)) else (none)))) else (none)) else (none)) else (none)) = some r:=by rw [if_pos rfl] at H;exact H
         clear H
         have H:=H1
         clear H1
         by_cases c56 : 0 ≤ x14_3
         rotate_left
         ·rw [if_neg c56] at H
          exact absurd H (by simp)
         rw [if_pos c56] at H
         have c56b0 : decide (0 ≤ x14_3) = true:=decide_eq_true c56
         clear c56
         by_cases c57 : x14_3 < (l3.length : Int)
         rotate_left
         ·rw [if_neg c57] at H
          exact absurd H (by simp)
         rw [if_pos c57] at H
         have c57b0 : decide (x14_3 < (l3.length : Int)) = true:=decide_eq_true c57
         clear c57
         by_cases c58 : x19_4 < ((rd_L6 l3 x14_3).length : Int)
         rotate_left
         ·rw [if_neg c58] at H
          exact absurd H (by simp)
         rw [if_pos c58] at H
         have c58b0 : decide (x19_4 < ((rd_L6 l3 x14_3).length : Int)) = true:=decide_eq_true c58
         clear c58
         obtain ⟨bq59,hbq59⟩ : ∃ b_ : Bool,b_ = (rdOf false (rd_L6 l3 x14_3) x19_4):=⟨_,rfl⟩
         replace H : (if bq59 = true then (none) else (if (((rd_T62 t284 x19_4).f2) != (bq59)) = true then (none) else (if x19_4 < (x274000_3.length : Int) then (if ((rd_T62 t284 x19_4).f0) < ((rd_T62 x274000_3 x19_4).f0) then (none) else (limits.l1 k4 a1 l2 l3 a4 x13_3 x14_3 (t277.length : Int) (wrap64 (x18_4 + 1)) (wrap64 (x19_4 + 1)) a0_0 a0_1 x274000_3 x274001_3 x274002_3 t284 t287 t288)) else (none)))) = some r:=by rw [← hbq59] at H;exact H
         have Nbq59:=Aside0.mk hbq59
         clear hbq59
         by_cases c60 : bq59 = true
         ·subst c60
          have H1 : (none) = some r:=by rw [if_pos rfl] at H;exact H
          clear H
          have H:=H1
          clear H1
          exact absurd H (by simp)
         replace c60:=Bool.eq_false_iff.mpr c60
         subst c60
         have H1 : (if (((rd_T62 t284 x19_4).f2) != (false)) = true then (none) else (if x19_4 < (x274000_3.length : Int) then (if ((rd_T62 t284 x19_4).f0) < ((rd_T62 x274000_3 x19_4).f0) then (none) else (limits.l1 k4 a1 l2 l3 a4 x13_3 x14_3 (t277.length : Int) (wrap64 (x18_4 + 1)) (wrap64 (x19_4 + 1)) a0_0 a0_1 x274000_3 x274001_3 x274002_3 t284 t287 t288)) else (none))) = some r:=by rw [if_neg (show ¬ (false = true) by decide)] at H;exact H
         clear H
         have H:=H1
         clear H1
         by_cases c61 : (((rd_T62 t284 x19_4).f2) != (false)) = true
         ·rw [if_pos c61] at H
          exact absurd H (by simp)
         rw [if_neg c61] at H
         have c61b0 : (((rd_T62 t284 x19_4).f2) != (false)) = false:=by simpa using c61
         (try (have c61b1 : decide (((rd_T62 t284 x19_4).f2) = (false)) = true:=by simpa using c61))
         (try (have c61b2 : (((rd_T62 t284 x19_4).f2) == (false)) = true:=by simpa using c61))
         clear c61
         by_cases c62 : x19_4 < (x274000_3.length : Int)
         rotate_left
         ·rw [if_neg c62] at H
          exact absurd H (by simp)
         rw [if_pos c62] at H
         have c62b0 : decide (x19_4 < (x274000_3.length : Int)) = true:=decide_eq_true c62
         clear c62
         by_cases c63 : ((rd_T62 t284 x19_4).f0) < ((rd_T62 x274000_3 x19_4).f0)
         ·rw [if_pos c63] at H
          exact absurd H (by simp)
         rw [if_neg c63] at H
         have c63b0 : decide (((rd_T62 t284 x19_4).f0) < ((rd_T62 x274000_3 x19_4).f0)) = false:=decide_eq_false c63
         clear c63
         have H':=Aside0.mk H
         clear H
         have hnb64:=NB290_265.out
         have hnc64:=NB265_290.out
         have hnb65:=NB290_273.out
         have hnc65:=NB273_290.out
         have hcz66_0 : wr.cell? ⟨gb290,0,none⟩ = some (.slice Ao48 t284.length co48):=(blk_cell BK290.out 0).trans rfl
         have hcz66_1 : wr.cell? ⟨gb290,1,none⟩ = some (.int .i64 t287):=(blk_cell BK290.out 1).trans rfl
         have hcz66_2 : wr.cell? ⟨gb290,2,none⟩ = some (.int .i64 t288):=(blk_cell BK290.out 2).trans rfl
         have hfz66_0:=blk_frozen BK290.out 0
         have hfz66_1:=blk_frozen BK290.out 1
         have hfz66_2:=blk_frozen BK290.out 2
         have p292 : 0 ≤ (x19_4 : Int):=of_decide_eq_true (by first|(with_reducible assumption)|assumption)
         have q292 : x19_4 < (t284.length : Int):=of_decide_eq_true (by first|(with_reducible assumption)|assumption)
         obtain ⟨ad292,e292,hx292_0,hx292_1,hx292_2⟩:=at_T62 (Kd.R_reads' HO_291000.out).2.2 x19_4 p292 q292
         (try rw [← Nbq54.out] at hx292_1)
         (try rw [← Nbq59.out] at hx292_1)
         (try rw [← Nbq54.out] at hx292_2)
         (try rw [← Nbq59.out] at hx292_2)
         cases e292
         replace p292:=eq_true p292
         replace q292:=eq_true q292
         try go_wp2
         have n0_:=Aside0.mk (Kd.R_drew HO_274000.out)
         have n1_:=Aside0.mk (Kd.R_drew HO_291000.out)
         have n2_:=Aside0.mk (blk_drew BK265.out)
         have n3_:=Aside0.mk (blk_drew BK273.out)
         have n4_:=Aside0.mk (blk_drew BK290.out)
         have n5_:=Aside0.mk (below_drew1 HB.out)
         clear HO_274000
         clear HO_291000
         clear BK265
         clear BK273
         clear BK290
         clear HB
         have HO_274000:=n0_
         have HO_291000:=n1_
         have BK265:=n2_
         have BK273:=n3_
         have BK290:=n4_
         have HB:=n5_
         clear n0_ n1_ n2_ n3_ n4_ n5_
         have p293 : 0 ≤ (x19_4 : Int):=of_decide_eq_true (by first|(with_reducible assumption)|assumption)
         have q293 : x19_4 < (t284.length : Int):=of_decide_eq_true (by first|(with_reducible assumption)|assumption)
         obtain ⟨ad293,e293,hx293_0,hx293_1,hx293_2⟩:=at_T62 (Kd.R_reads' HO_291000.out).2.2 x19_4 p293 q293
         (try rw [← Nbq54.out] at hx293_1)
         (try rw [← Nbq59.out] at hx293_1)
         (try rw [← Nbq54.out] at hx293_2)
         (try rw [← Nbq59.out] at hx293_2)
         obtain rfl : ad292 = ad293:=(by injection e293)
         replace p293:=eq_true p293
         replace q293:=eq_true q293
         have p294 : 0 ≤ (x14_3 : Int):=of_decide_eq_true (by first|(with_reducible assumption)|assumption)
         have q294 : x14_3 < (l3.length : Int):=of_decide_eq_true (by first|(with_reducible assumption)|assumption)
         obtain ⟨ad294,A294_0,c294_0,e294,hx294_0,hl294_0,hi294_0⟩:=at_L6 HR3.out x14_3 p294 q294
         have hw294_0:=hx294_0
         obtain rfl : ad283 = ad294:=(by injection e294)
         replace hx294_0:=(HB.out.cell (World.block_lt_of_cell? w _ hx294_0)).trans hx294_0
         have HR294_0:=Aside0.mk hi294_0
         have HC294_0:=Aside0.mk hl294_0
         clear hi294_0 hl294_0
         replace p294:=eq_true p294
         replace q294:=eq_true q294
         have p295 : 0 ≤ (x19_4 : Int):=of_decide_eq_true (by first|(with_reducible assumption)|assumption)
         have q295 : x19_4 < ((rd_L6 l3 x14_3).length : Int):=of_decide_eq_true (by first|(with_reducible assumption)|assumption)
         obtain ⟨ad295,e295,hx295_0⟩:=Kd.at_bool HR294_0.out x19_4 p295 q295
         have hw295_0:=hx295_0
         (try rw [← Nbq54.out] at hx295_0)
         (try rw [← Nbq54.out] at hw295_0)
         (try rw [← Nbq59.out] at hx295_0)
         (try rw [← Nbq59.out] at hw295_0)
         cases e295
         replace hx295_0:=(HB.out.cell (World.block_lt_of_cell? w _ hx295_0)).trans hx295_0
         replace p295:=eq_true p295
         replace q295:=eq_true q295
         have p296 : 0 ≤ (x19_4 : Int):=of_decide_eq_true (by first|(with_reducible assumption)|assumption)
         have q296 : x19_4 < (t284.length : Int):=of_decide_eq_true (by first|(with_reducible assumption)|assumption)
         obtain ⟨ad296,e296,hx296_0,hx296_1,hx296_2⟩:=at_T62 (Kd.R_reads' HO_291000.out).2.2 x19_4 p296 q296
         (try rw [← Nbq54.out] at hx296_1)
         (try rw [← Nbq59.out] at hx296_1)
         (try rw [← Nbq54.out] at hx296_2)
         (try rw [← Nbq59.out] at hx296_2)
         obtain rfl : ad292 = ad296:=(by injection e296)
         replace p296:=eq_true p296
         replace q296:=eq_true q296
         have p297 : 0 ≤ (x14_3 : Int):=of_decide_eq_true (by first|(with_reducible assumption)|assumption)
         have q297 : x14_3 < (l3.length : Int):=of_decide_eq_true (by first|(with_reducible assumption)|assumption)
         obtain ⟨ad297,A297_0,c297_0,e297,hx297_0,hl297_0,hi297_0⟩:=at_L6 HR3.out x14_3 p297 q297
         have hw297_0:=hx297_0
         obtain rfl : ad283 = ad297:=(by injection e297)
         replace hx297_0:=(HB.out.cell (World.block_lt_of_cell? w _ hx297_0)).trans hx297_0
         have HR297_0:=Aside0.mk hi297_0
         have HC297_0:=Aside0.mk hl297_0
         clear hi297_0 hl297_0
         replace p297:=eq_true p297
         replace q297:=eq_true q297
         have ea_:=Option.some.inj (hx294_0.symm.trans hx297_0)
         injection ea_ with ea_ en_ ec_
         subst ea_
         subst ec_
         clear en_
         have p298 : 0 ≤ (x19_4 : Int):=of_decide_eq_true (by first|(with_reducible assumption)|assumption)
         have q298 : x19_4 < ((rd_L6 l3 x14_3).length : Int):=of_decide_eq_true (by first|(with_reducible assumption)|assumption)
         obtain ⟨ad298,e298,hx298_0⟩:=Kd.at_bool HR297_0.out x19_4 p298 q298
         have hw298_0:=hx298_0
         (try rw [← Nbq54.out] at hx298_0)
         (try rw [← Nbq54.out] at hw298_0)
         (try rw [← Nbq59.out] at hx298_0)
         (try rw [← Nbq59.out] at hw298_0)
         cases e298
         replace hx298_0:=(HB.out.cell (World.block_lt_of_cell? w _ hx298_0)).trans hx298_0
         replace p298:=eq_true p298
         replace q298:=eq_true q298
         have p299 : 0 ≤ (x19_4 : Int):=of_decide_eq_true (by first|(with_reducible assumption)|assumption)
         have q299 : x19_4 < (t284.length : Int):=of_decide_eq_true (by first|(with_reducible assumption)|assumption)
         obtain ⟨ad299,e299,hx299_0,hx299_1,hx299_2⟩:=at_T62 (Kd.R_reads' HO_291000.out).2.2 x19_4 p299 q299
         (try rw [← Nbq54.out] at hx299_1)
         (try rw [← Nbq59.out] at hx299_1)
         (try rw [← Nbq54.out] at hx299_2)
         (try rw [← Nbq59.out] at hx299_2)
         obtain rfl : ad292 = ad299:=(by injection e299)
         replace p299:=eq_true p299
         replace q299:=eq_true q299
         have p300 : 0 ≤ (x19_4 : Int):=of_decide_eq_true (by first|(with_reducible assumption)|assumption)
         have q300 : x19_4 < (x274000_3.length : Int):=of_decide_eq_true (by first|(with_reducible assumption)|assumption)
         obtain ⟨ad300,e300,hx300_0,hx300_1,hx300_2⟩:=at_T62 (Kd.R_reads' HO_274000.out).2.2 x19_4 p300 q300
         (try rw [← Nbq54.out] at hx300_1)
         (try rw [← Nbq59.out] at hx300_1)
         (try rw [← Nbq54.out] at hx300_2)
         (try rw [← Nbq59.out] at hx300_2)
         cases e300
         replace p300:=eq_true p300
         replace q300:=eq_true q300
         refine start_ (n:=46) (S:=fun w' => w'.cell? ⟨gb290,0,none⟩ = some (.slice (some ad292) t284.length co48)∧w'.cell? ⟨gb290,1,none⟩ = some (.int .i64 t287)∧w'.cell? ⟨gb290,2,none⟩ = some (.int .i64 t288)∧w'.cell? ⟨gb273,0,none⟩ = some (.slice (some ad300) x274000_3.length co40)∧w'.cell? ⟨gb273,1,none⟩ = some (.int .i64 x274001_3)∧w'.cell? ⟨gb273,2,none⟩ = some (.int .i64 x274002_3)∧w'.cell? (ad292.add ((x19_4).toNat * 3)) = some (.int .i64 ((rd_T62 t284 x19_4).f0))∧w'.cell? ⟨(ad292.add ((x19_4).toNat * 3)).block,(ad292.add ((x19_4).toNat * 3)).off + 1,none⟩ = some (.bool (true))∧w'.cell? ⟨(ad292.add ((x19_4).toNat * 3)).block,(ad292.add ((x19_4).toNat * 3)).off + 2,none⟩ = some (.bool ((rd_T62 t284 x19_4).f2))∧w'.cell? (ad283.add (x14_3).toNat) = some (.slice (some ad295) (rd_L6 l3 x14_3).length c294_0)∧w'.cell? (ad295.add (x19_4).toNat) = some (.bool false)∧w'.cell? (ad292.add ((x19_4).toNat * 3)) = some (.int .i64 ((rd_T62 t284 x19_4).f0))∧w'.cell? ⟨(ad292.add ((x19_4).toNat * 3)).block,(ad292.add ((x19_4).toNat * 3)).off + 1,none⟩ = some (.bool (true))∧w'.cell? ⟨(ad292.add ((x19_4).toNat * 3)).block,(ad292.add ((x19_4).toNat * 3)).off + 2,none⟩ = some (.bool ((rd_T62 t284 x19_4).f2))∧w'.cell? (ad283.add (x14_3).toNat) = some (.slice (some ad295) (rd_L6 l3 x14_3).length c294_0)∧w'.cell? (ad295.add (x19_4).toNat) = some (.bool (false))∧w'.cell? (ad292.add ((x19_4).toNat * 3)) = some (.int .i64 ((rd_T62 t284 x19_4).f0))∧w'.cell? ⟨(ad292.add ((x19_4).toNat * 3)).block,(ad292.add ((x19_4).toNat * 3)).off + 1,none⟩ = some (.bool (true))∧w'.cell? ⟨(ad292.add ((x19_4).toNat * 3)).block,(ad292.add ((x19_4).toNat * 3)).off + 2,none⟩ = some (.bool ((rd_T62 t284 x19_4).f2))∧w'.cell? (ad300.add ((x19_4).toNat * 3)) = some (.int .i64 ((rd_T62 x274000_3 x19_4).f0))∧w'.cell? ⟨(ad300.add ((x19_4).toNat * 3)).block,(ad300.add ((x19_4).toNat * 3)).off + 1,none⟩ = some (.bool ((rd_T62 x274000_3 x19_4).f1))∧w'.cell? ⟨(ad300.add ((x19_4).toNat * 3)).block,(ad300.add ((x19_4).toNat * 3)).off + 2,none⟩ = some (.bool ((rd_T62 x274000_3 x19_4).f2))) (ds:=[]) #[false,false,false,false,false,false,false,false,false,false,false,false,false,false,false,false,false,false,false,false,false,false,false,false,false,false,false,false,false,false,false,false,false,false,false,false,false,false,false,false,false,false,false,false,false,false] (by kernel_rfl) rfl rfl ⟨(blk_cell BK290.out 0).trans rfl,(blk_cell BK290.out 1).trans rfl,(blk_cell BK290.out 2).trans rfl,(blk_cell BK273.out 0).trans rfl,(blk_cell BK273.out 1).trans rfl,(blk_cell BK273.out 2).trans rfl,hx293_0,hx293_1,hx293_2,((HB.out.cell (World.block_lt_of_cell? w _ hw294_0)).trans hw294_0),((HB.out.cell (World.block_lt_of_cell? w _ hw295_0)).trans hw295_0),hx296_0,hx296_1,hx296_2,((HB.out.cell (World.block_lt_of_cell? w _ hw297_0)).trans hw297_0),((HB.out.cell (World.block_lt_of_cell? w _ hw298_0)).trans hw298_0),hx299_0,hx299_1,hx299_2,hx300_0,hx300_1,hx300_2⟩ (fun hHeld => ?_);refine with_tabW limits.tab22 limits.bits22 (fun HT_ HW_ => ?_)
         generalize wr.drew = w67 at HO_274000 HO_291000 BK265 BK273 BK290 HB HR294_0 HR297_0 hx293_0 hx293_1 hx293_2 hx294_0 hx295_0 hx296_0 hx296_1 hx296_2 hx297_0 hx298_0 hx299_0 hx299_1 hx299_2 hx300_0 hx300_1 hx300_2 hHeld ⊢
         refine pure_ (i:=0) (N:=some 106) (v:=?_) (a':=?_) #[true,false,false,false,false,false,false,false,false,false,false,false,false,false,false,false,false,false,false,false,false,false,false,false,false,false,false,false,false,false,false,false,false,false,false,false,false,false,false,false,false,false,false,false,false,false] rfl rfl (any_of HT_.out (by kernel_rfl)) (fun _ _ _ h => h) (Or.inl ⟨by rfl,?_⟩) ?_ ?_
         rotate_left;(intro w';go_simp;with_reducible rfl);rotate_left;(simp only [Act.put,setIfInBounds_toArray,set_cons_zero,set_cons_succ,i64_w,i32_w];rfl)
         refine pure_ (i:=2) (N:=some 108) (v:=?_) (a':=?_) #[true,false,true,false,false,false,false,false,false,false,false,false,false,false,false,false,false,false,false,false,false,false,false,false,false,false,false,false,false,false,false,false,false,false,false,false,false,false,false,false,false,false,false,false,false,false] rfl rfl (any_of HT_.out (by kernel_rfl)) (fun _ _ _ h => h) (Or.inl ⟨by rfl,?_⟩) ?_ ?_
         rotate_left;(intro w';go_simp;with_reducible rfl);rotate_left;(simp only [Act.put,setIfInBounds_toArray,set_cons_zero,set_cons_succ,i64_w,i32_w];rfl)
         refine take_ (i:=1) (N:=some 107) (v:=?_) (a':=?_) #[true,true,true,false,false,false,false,false,false,false,false,false,false,false,false,false,false,false,false,false,false,false,false,false,false,false,false,false,false,false,false,false,false,false,false,false,false,false,false,false,false,false,false,false,false,false] rfl rfl (take_ofW HT_.out HW_.out (by kernel_rfl)) (fun _ _ _ h => h) (Or.inl ⟨by rfl,?_⟩) hHeld ?_ ?_
         rotate_left;(rintro w' ⟨s0,s1,s2,s3,s4,s5,s6,s7,s8,s9,s10,s11,s12,s13,s14,s15,s16,s17,s18,s19,s20,s21⟩;go_simp;with_reducible rfl);rotate_left;(simp only [Act.put,setIfInBounds_toArray,set_cons_zero,set_cons_succ,i64_w,i32_w];rfl)
         refine pure_ (i:=3) (N:=some 109) (v:=?_) (a':=?_) #[true,true,true,true,false,false,false,false,false,false,false,false,false,false,false,false,false,false,false,false,false,false,false,false,false,false,false,false,false,false,false,false,false,false,false,false,false,false,false,false,false,false,false,false,false,false] rfl rfl (any_of HT_.out (by kernel_rfl)) (fun _ _ _ h => h) (Or.inl ⟨by rfl,?_⟩) ?_ ?_
         rotate_left;(intro w';go_simp;with_reducible rfl);rotate_left;(simp only [Act.put,setIfInBounds_toArray,set_cons_zero,set_cons_succ,i64_w,i32_w];rfl)
         refine pure_ (i:=4) (N:=some 110) (v:=?_) (a':=?_) #[true,true,true,true,true,false,false,false,false,false,false,false,false,false,false,false,false,false,false,false,false,false,false,false,false,false,false,false,false,false,false,false,false,false,false,false,false,false,false,false,false,false,false,false,false,false] rfl rfl (any_of HT_.out (by kernel_rfl)) (fun _ _ _ h => h) (Or.inl ⟨by rfl,?_⟩) ?_ ?_
         rotate_left;(intro w';go_simp;with_reducible rfl);rotate_left;(simp only [Act.put,setIfInBounds_toArray,set_cons_zero,set_cons_succ,i64_w,i32_w];rfl)
         refine take_ (i:=5) (N:=some 111) (v:=?_) (a':=?_) #[true,true,true,true,true,true,false,false,false,false,false,false,false,false,false,false,false,false,false,false,false,false,false,false,false,false,false,false,false,false,false,false,false,false,false,false,false,false,false,false,false,false,false,false,false,false] rfl rfl (take_ofW HT_.out HW_.out (by kernel_rfl)) (fun _ _ _ h => h) (Or.inl ⟨by rfl,?_⟩) hHeld ?_ ?_
         rotate_left;(rintro w' ⟨s0,s1,s2,s3,s4,s5,s6,s7,s8,s9,s10,s11,s12,s13,s14,s15,s16,s17,s18,s19,s20,s21⟩;go_simp;with_reducible rfl);rotate_left;(simp only [Act.put,setIfInBounds_toArray,set_cons_zero,set_cons_succ,i64_w,i32_w];rfl)
         refine pure_ (i:=6) (N:=some 112) (v:=?_) (a':=?_) #[true,true,true,true,true,true,true,false,false,false,false,false,false,false,false,false,false,false,false,false,false,false,false,false,false,false,false,false,false,false,false,false,false,false,false,false,false,false,false,false,false,false,false,false,false,false] rfl rfl (any_of HT_.out (by kernel_rfl)) (fun _ _ _ h => h) (Or.inl ⟨by rfl,?_⟩) ?_ ?_
         rotate_left;(intro w';go_simp;with_reducible rfl);rotate_left;(simp only [Act.put,setIfInBounds_toArray,set_cons_zero,set_cons_succ,i64_w,i32_w];rfl)
         refine pure_ (i:=7) (N:=some 113) (v:=?_) (a':=?_) #[true,true,true,true,true,true,true,true,false,false,false,false,false,false,false,false,false,false,false,false,false,false,false,false,false,false,false,false,false,false,false,false,false,false,false,false,false,false,false,false,false,false,false,false,false,false] rfl rfl (any_of HT_.out (by kernel_rfl)) (fun _ _ _ h => h) (Or.inl ⟨by rfl,?_⟩) ?_ ?_
         rotate_left;(intro w';go_simp;with_reducible rfl);rotate_left;(simp only [Act.put,setIfInBounds_toArray,set_cons_zero,set_cons_succ,i64_w,i32_w];rfl)
         refine pure_ (i:=8) (N:=some 114) (v:=?_) (a':=?_) #[true,true,true,true,true,true,true,true,true,false,false,false,false,false,false,false,false,false,false,false,false,false,false,false,false,false,false,false,false,false,false,false,false,false,false,false,false,false,false,false,false,false,false,false,false,false] rfl rfl (any_of HT_.out (by kernel_rfl)) (fun _ _ _ h => h) (Or.inl ⟨by rfl,?_⟩) ?_ ?_
         rotate_left;(intro w';go_simp;with_reducible rfl);rotate_left;(simp only [Act.put,setIfInBounds_toArray,set_cons_zero,set_cons_succ,i64_w,i32_w];rfl)
         refine pure_ (i:=9) (N:=some 115) (v:=?_) (a':=?_) #[true,true,true,true,true,true,true,true,true,true,false,false,false,false,false,false,false,false,false,false,false,false,false,false,false,false,false,false,false,false,false,false,false,false,false,false,false,false,false,false,false,false,false,false,false,false] rfl rfl (any_of HT_.out (by kernel_rfl)) (fun _ _ _ h => h) (Or.inl ⟨by rfl,?_⟩) ?_ ?_
         rotate_left;(intro w';go_simp;with_reducible rfl);rotate_left;(simp only [Act.put,setIfInBounds_toArray,set_cons_zero,set_cons_succ,i64_w,i32_w];rfl)
         refine pure_ (i:=11) (N:=some 117) (v:=?_) (a':=?_) #[true,true,true,true,true,true,true,true,true,true,false,true,false,false,false,false,false,false,false,false,false,false,false,false,false,false,false,false,false,false,false,false,false,false,false,false,false,false,false,false,false,false,false,false,false,false] rfl rfl (any_of HT_.out (by kernel_rfl)) (fun _ _ _ h => h) (Or.inl ⟨by rfl,?_⟩) ?_ ?_
         rotate_left;(intro w';go_simp;with_reducible rfl);rotate_left;(simp only [Act.put,setIfInBounds_toArray,set_cons_zero,set_cons_succ,i64_w,i32_w];rfl)
         refine take_ (i:=10) (N:=some 116) (v:=?_) (a':=?_) #[true,true,true,true,true,true,true,true,true,true,true,true,false,false,false,false,false,false,false,false,false,false,false,false,false,false,false,false,false,false,false,false,false,false,false,false,false,false,false,false,false,false,false,false,false,false] rfl rfl (take_ofW HT_.out HW_.out (by kernel_rfl)) (fun _ _ _ h => h) (Or.inl ⟨by rfl,?_⟩) hHeld ?_ ?_
         rotate_left;(rintro w' ⟨s0,s1,s2,s3,s4,s5,s6,s7,s8,s9,s10,s11,s12,s13,s14,s15,s16,s17,s18,s19,s20,s21⟩;go_simp;with_reducible rfl);rotate_left;(simp only [Act.put,setIfInBounds_toArray,set_cons_zero,set_cons_succ,i64_w,i32_w];rfl)
         refine pure_ (i:=12) (N:=some 118) (v:=?_) (a':=?_) #[true,true,true,true,true,true,true,true,true,true,true,true,true,false,false,false,false,false,false,false,false,false,false,false,false,false,false,false,false,false,false,false,false,false,false,false,false,false,false,false,false,false,false,false,false,false] rfl rfl (any_of HT_.out (by kernel_rfl)) (fun _ _ _ h => h) (Or.inl ⟨by rfl,?_⟩) ?_ ?_
         rotate_left;(intro w';go_simp;with_reducible rfl);rotate_left;(simp only [Act.put,setIfInBounds_toArray,set_cons_zero,set_cons_succ,i64_w,i32_w];rfl)
         refine take_ (i:=13) (N:=some 119) (v:=?_) (a':=?_) #[true,true,true,true,true,true,true,true,true,true,true,true,true,true,false,false,false,false,false,false,false,false,false,false,false,false,false,false,false,false,false,false,false,false,false,false,false,false,false,false,false,false,false,false,false,false] rfl rfl (take_ofW HT_.out HW_.out (by kernel_rfl)) (fun _ _ _ h => h) (Or.inl ⟨by rfl,?_⟩) hHeld ?_ ?_
         rotate_left;(rintro w' ⟨s0,s1,s2,s3,s4,s5,s6,s7,s8,s9,s10,s11,s12,s13,s14,s15,s16,s17,s18,s19,s20,s21⟩;go_simp;with_reducible rfl);rotate_left;(simp only [Act.put,setIfInBounds_toArray,set_cons_zero,set_cons_succ,i64_w,i32_w];rfl)
         refine pure_ (i:=14) (N:=some 120) (v:=?_) (a':=?_) #[true,true,true,true,true,true,true,true,true,true,true,true,true,true,true,false,false,false,false,false,false,false,false,false,false,false,false,false,false,false,false,false,false,false,false,false,false,false,false,false,false,false,false,false,false,false] rfl rfl (any_of HT_.out (by kernel_rfl)) (fun _ _ _ h => h) (Or.inl ⟨by rfl,?_⟩) ?_ ?_
         rotate_left;(intro w';go_simp;with_reducible rfl);rotate_left;(simp only [Act.put,setIfInBounds_toArray,set_cons_zero,set_cons_succ,i64_w,i32_w];rfl)
         refine pure_ (i:=15) (N:=some 121) (v:=?_) (a':=?_) #[true,true,true,true,true,true,true,true,true,true,true,true,true,true,true,true,false,false,false,false,false,false,false,false,false,false,false,false,false,false,false,false,false,false,false,false,false,false,false,false,false,false,false,false,false,false] rfl rfl (any_of HT_.out (by kernel_rfl)) (fun _ _ _ h => h) (Or.inl ⟨by rfl,?_⟩) ?_ ?_
         rotate_left;(intro w';go_simp;with_reducible rfl);rotate_left;(simp only [Act.put,setIfInBounds_toArray,set_cons_zero,set_cons_succ,i64_w,i32_w];rfl)
         refine pure_ (i:=16) (N:=some 122) (v:=?_) (a':=?_) #[true,true,true,true,true,true,true,true,true,true,true,true,true,true,true,true,true,false,false,false,false,false,false,false,false,false,false,false,false,false,false,false,false,false,false,false,false,false,false,false,false,false,false,false,false,false] rfl rfl (any_of HT_.out (by kernel_rfl)) (fun _ _ _ h => h) (Or.inl ⟨by rfl,?_⟩) ?_ ?_
         rotate_left;(intro w';go_simp;with_reducible rfl);rotate_left;(simp only [Act.put,setIfInBounds_toArray,set_cons_zero,set_cons_succ,i64_w,i32_w];rfl)
         refine pure_ (i:=18) (N:=some 124) (v:=?_) (a':=?_) #[true,true,true,true,true,true,true,true,true,true,true,true,true,true,true,true,true,false,true,false,false,false,false,false,false,false,false,false,false,false,false,false,false,false,false,false,false,false,false,false,false,false,false,false,false,false] rfl rfl (any_of HT_.out (by kernel_rfl)) (fun _ _ _ h => h) (Or.inl ⟨by rfl,?_⟩) ?_ ?_
         rotate_left;(intro w';go_simp;with_reducible rfl);rotate_left;(simp only [Act.put,setIfInBounds_toArray,set_cons_zero,set_cons_succ,i64_w,i32_w];rfl)
         refine pure_ (i:=22) (N:=some 128) (v:=?_) (a':=?_) #[true,true,true,true,true,true,true,true,true,true,true,true,true,true,true,true,true,false,true,false,false,false,true,false,false,false,false,false,false,false,false,false,false,false,false,false,false,false,false,false,false,false,false,false,false,false] rfl rfl (any_of HT_.out (by kernel_rfl)) (fun _ _ _ h => h) (Or.inl ⟨by rfl,?_⟩) ?_ ?_
         rotate_left;(intro w';go_simp;with_reducible rfl);rotate_left;(simp only [Act.put,setIfInBounds_toArray,set_cons_zero,set_cons_succ,i64_w,i32_w];rfl)
         refine pure_ (i:=23) (N:=some 129) (v:=?_) (a':=?_) #[true,true,true,true,true,true,true,true,true,true,true,true,true,true,true,true,true,false,true,false,false,false,true,true,false,false,false,false,false,false,false,false,false,false,false,false,false,false,false,false,false,false,false,false,false,false] rfl rfl (any_of HT_.out (by kernel_rfl)) (fun _ _ _ h => h) (Or.inl ⟨by rfl,?_⟩) ?_ ?_
         rotate_left;(intro w';go_simp;with_reducible rfl);rotate_left;(simp only [Act.put,setIfInBounds_toArray,set_cons_zero,set_cons_succ,i64_w,i32_w];rfl)
         refine pure_ (i:=24) (N:=some 130) (v:=?_) (a':=?_) #[true,true,true,true,true,true,true,true,true,true,true,true,true,true,true,true,true,false,true,false,false,false,true,true,true,false,false,false,false,false,false,false,false,false,false,false,false,false,false,false,false,false,false,false,false,false] rfl rfl (any_of HT_.out (by kernel_rfl)) (fun _ _ _ h => h) (Or.inl ⟨by rfl,?_⟩) ?_ ?_
         rotate_left;(intro w';go_simp;with_reducible rfl);rotate_left;(simp only [Act.put,setIfInBounds_toArray,set_cons_zero,set_cons_succ,i64_w,i32_w];rfl)
         refine pure_ (i:=26) (N:=some 132) (v:=?_) (a':=?_) #[true,true,true,true,true,true,true,true,true,true,true,true,true,true,true,true,true,false,true,false,false,false,true,true,true,false,true,false,false,false,false,false,false,false,false,false,false,false,false,false,false,false,false,false,false,false] rfl rfl (any_of HT_.out (by kernel_rfl)) (fun _ _ _ h => h) (Or.inl ⟨by rfl,?_⟩) ?_ ?_
         rotate_left;(intro w';go_simp;with_reducible rfl);rotate_left;(simp only [Act.put,setIfInBounds_toArray,set_cons_zero,set_cons_succ,i64_w,i32_w];rfl)
         refine take_ (i:=17) (N:=some 123) (v:=?_) (a':=?_) #[true,true,true,true,true,true,true,true,true,true,true,true,true,true,true,true,true,true,true,false,false,false,true,true,true,false,true,false,false,false,false,false,false,false,false,false,false,false,false,false,false,false,false,false,false,false] rfl rfl (take_ofW HT_.out HW_.out (by kernel_rfl)) (fun _ _ _ h => h) (Or.inl ⟨by rfl,?_⟩) hHeld ?_ ?_
         rotate_left;(rintro w' ⟨s0,s1,s2,s3,s4,s5,s6,s7,s8,s9,s10,s11,s12,s13,s14,s15,s16,s17,s18,s19,s20,s21⟩;go_simp;with_reducible rfl);rotate_left;(simp only [Act.put,setIfInBounds_toArray,set_cons_zero,set_cons_succ,i64_w,i32_w];rfl)
         refine pure_ (i:=19) (N:=some 125) (v:=?_) (a':=?_) #[true,true,true,true,true,true,true,true,true,true,true,true,true,true,true,true,true,true,true,true,false,false,true,true,true,false,true,false,false,false,false,false,false,false,false,false,false,false,false,false,false,false,false,false,false,false] rfl rfl (any_of HT_.out (by kernel_rfl)) (fun _ _ _ h => h) (Or.inl ⟨by rfl,?_⟩) ?_ ?_
         rotate_left;(intro w';go_simp;with_reducible rfl);rotate_left;(simp only [Act.put,setIfInBounds_toArray,set_cons_zero,set_cons_succ,i64_w,i32_w];rfl)
         refine pure_ (i:=20) (N:=some 126) (v:=?_) (a':=?_) #[true,true,true,true,true,true,true,true,true,true,true,true,true,true,true,true,true,true,true,true,true,false,true,true,true,false,true,false,false,false,false,false,false,false,false,false,false,false,false,false,false,false,false,false,false,false] rfl rfl (any_of HT_.out (by kernel_rfl)) (fun _ _ _ h => h) (Or.inl ⟨by rfl,?_⟩) ?_ ?_
         rotate_left;(intro w';go_simp;with_reducible rfl);rotate_left;(simp only [Act.put,setIfInBounds_toArray,set_cons_zero,set_cons_succ,i64_w,i32_w];rfl)
         refine take_ (i:=21) (N:=some 127) (v:=?_) (a':=?_) #[true,true,true,true,true,true,true,true,true,true,true,true,true,true,true,true,true,true,true,true,true,true,true,true,true,false,true,false,false,false,false,false,false,false,false,false,false,false,false,false,false,false,false,false,false,false] rfl rfl (take_ofW HT_.out HW_.out (by kernel_rfl)) (fun _ _ _ h => h) (Or.inl ⟨by rfl,?_⟩) hHeld ?_ ?_
         rotate_left;(rintro w' ⟨s0,s1,s2,s3,s4,s5,s6,s7,s8,s9,s10,s11,s12,s13,s14,s15,s16,s17,s18,s19,s20,s21⟩;go_simp;with_reducible rfl);rotate_left;(simp only [Act.put,setIfInBounds_toArray,set_cons_zero,set_cons_succ,i64_w,i32_w];rfl)
         refine take_ (i:=25) (N:=some 131) (v:=?_) (a':=?_) #[true,true,true,true,true,true,true,true,true,true,true,true,true,true,true,true,true,true,true,true,true,true,true,true,true,true,true,false,false,false,false,false,false,false,false,false,false,false,false,false,false,false,false,false,false,false] rfl rfl (take_ofW HT_.out HW_.out (by kernel_rfl)) (fun _ _ _ h => h) (Or.inl ⟨by rfl,?_⟩) hHeld ?_ ?_
         rotate_left;(rintro w' ⟨s0,s1,s2,s3,s4,s5,s6,s7,s8,s9,s10,s11,s12,s13,s14,s15,s16,s17,s18,s19,s20,s21⟩;go_simp;with_reducible rfl);rotate_left;(simp only [Act.put,setIfInBounds_toArray,set_cons_zero,set_cons_succ,i64_w,i32_w];rfl)
         refine pure_ (i:=27) (N:=some 133) (v:=?_) (a':=?_) #[true,true,true,true,true,true,true,true,true,true,true,true,true,true,true,true,true,true,true,true,true,true,true,true,true,true,true,true,false,false,false,false,false,false,false,false,false,false,false,false,false,false,false,false,false,false] rfl rfl (any_of HT_.out (by kernel_rfl)) (fun _ _ _ h => h) (Or.inl ⟨by rfl,?_⟩) ?_ ?_
         rotate_left;(intro w';go_simp;with_reducible rfl);rotate_left;(simp only [Act.put,setIfInBounds_toArray,set_cons_zero,set_cons_succ,i64_w,i32_w];rfl)
         refine take_ (i:=28) (N:=some 134) (v:=?_) (a':=?_) #[true,true,true,true,true,true,true,true,true,true,true,true,true,true,true,true,true,true,true,true,true,true,true,true,true,true,true,true,true,false,false,false,false,false,false,false,false,false,false,false,false,false,false,false,false,false] rfl rfl (take_ofW HT_.out HW_.out (by kernel_rfl)) (fun _ _ _ h => h) (Or.inl ⟨by rfl,?_⟩) hHeld ?_ ?_
         rotate_left;(rintro w' ⟨s0,s1,s2,s3,s4,s5,s6,s7,s8,s9,s10,s11,s12,s13,s14,s15,s16,s17,s18,s19,s20,s21⟩;go_simp;with_reducible rfl);rotate_left;(simp only [Act.put,setIfInBounds_toArray,set_cons_zero,set_cons_succ,i64_w,i32_w];rfl)
         refine pure_ (i:=29) (N:=some 135) (v:=?_) (a':=?_) #[true,true,true,true,true,true,true,true,true,true,true,true,true,true,true,true,true,true,true,true,true,true,true,true,true,true,true,true,true,true,false,false,false,false,false,false,false,false,false,false,false,false,false,false,false,false] rfl rfl (any_of HT_.out (by kernel_rfl)) (fun _ _ _ h => h) (Or.inl ⟨by rfl,?_⟩) ?_ ?_
         rotate_left;(intro w';go_simp;with_reducible rfl);rotate_left;(simp only [Act.put,setIfInBounds_toArray,set_cons_zero,set_cons_succ,i64_w,i32_w];rfl)
         refine pure_ (i:=30) (N:=some 136) (v:=?_) (a':=?_) #[true,true,true,true,true,true,true,true,true,true,true,true,true,true,true,true,true,true,true,true,true,true,true,true,true,true,true,true,true,true,true,false,false,false,false,false,false,false,false,false,false,false,false,false,false,false] rfl rfl (any_of HT_.out (by kernel_rfl)) (fun _ _ _ h => h) (Or.inl ⟨by rfl,?_⟩) ?_ ?_
         rotate_left;(intro w';go_simp;with_reducible rfl);rotate_left;(simp only [Act.put,setIfInBounds_toArray,set_cons_zero,set_cons_succ,i64_w,i32_w];rfl)
         refine pure_ (i:=31) (N:=some 137) (v:=?_) (a':=?_) #[true,true,true,true,true,true,true,true,true,true,true,true,true,true,true,true,true,true,true,true,true,true,true,true,true,true,true,true,true,true,true,true,false,false,false,false,false,false,false,false,false,false,false,false,false,false] rfl rfl (any_of HT_.out (by kernel_rfl)) (fun _ _ _ h => h) (Or.inl ⟨by rfl,?_⟩) ?_ ?_
         rotate_left;(intro w';go_simp;with_reducible rfl);rotate_left;(simp only [Act.put,setIfInBounds_toArray,set_cons_zero,set_cons_succ,i64_w,i32_w];rfl)
         refine pure_ (i:=32) (N:=some 138) (v:=?_) (a':=?_) #[true,true,true,true,true,true,true,true,true,true,true,true,true,true,true,true,true,true,true,true,true,true,true,true,true,true,true,true,true,true,true,true,true,false,false,false,false,false,false,false,false,false,false,false,false,false] rfl rfl (any_of HT_.out (by kernel_rfl)) (fun _ _ _ h => h) (Or.inl ⟨by rfl,?_⟩) ?_ ?_
         rotate_left;(intro w';go_simp;with_reducible rfl);rotate_left;(simp only [Act.put,setIfInBounds_toArray,set_cons_zero,set_cons_succ,i64_w,i32_w];rfl)
         refine pure_ (i:=34) (N:=some 140) (v:=?_) (a':=?_) #[true,true,true,true,true,true,true,true,true,true,true,true,true,true,true,true,true,true,true,true,true,true,true,true,true,true,true,true,true,true,true,true,true,false,true,false,false,false,false,false,false,false,false,false,false,false] rfl rfl (any_of HT_.out (by kernel_rfl)) (fun _ _ _ h => h) (Or.inl ⟨by rfl,?_⟩) ?_ ?_
         rotate_left;(intro w';go_simp;with_reducible rfl);rotate_left;(simp only [Act.put,setIfInBounds_toArray,set_cons_zero,set_cons_succ,i64_w,i32_w];rfl)
         refine pure_ (i:=38) (N:=some 144) (v:=?_) (a':=?_) #[true,true,true,true,true,true,true,true,true,true,true,true,true,true,true,true,true,true,true,true,true,true,true,true,true,true,true,true,true,true,true,true,true,false,true,false,false,false,true,false,false,false,false,false,false,false] rfl rfl (any_of HT_.out (by kernel_rfl)) (fun _ _ _ h => h) (Or.inl ⟨by rfl,?_⟩) ?_ ?_
         rotate_left;(intro w';go_simp;with_reducible rfl);rotate_left;(simp only [Act.put,setIfInBounds_toArray,set_cons_zero,set_cons_succ,i64_w,i32_w];rfl)
         refine pure_ (i:=40) (N:=some 146) (v:=?_) (a':=?_) #[true,true,true,true,true,true,true,true,true,true,true,true,true,true,true,true,true,true,true,true,true,true,true,true,true,true,true,true,true,true,true,true,true,false,true,false,false,false,true,false,true,false,false,false,false,false] rfl rfl (any_of HT_.out (by kernel_rfl)) (fun _ _ _ h => h) (Or.inl ⟨by rfl,?_⟩) ?_ ?_
         rotate_left;(intro w';go_simp;with_reducible rfl);rotate_left;(simp only [Act.put,setIfInBounds_toArray,set_cons_zero,set_cons_succ,i64_w,i32_w];rfl)
         refine take_ (i:=33) (N:=some 139) (v:=?_) (a':=?_) #[true,true,true,true,true,true,true,true,true,true,true,true,true,true,true,true,true,true,true,true,true,true,true,true,true,true,true,true,true,true,true,true,true,true,true,false,false,false,true,false,true,false,false,false,false,false] rfl rfl (take_ofW HT_.out HW_.out (by kernel_rfl)) (fun _ _ _ h => h) (Or.inl ⟨by rfl,?_⟩) hHeld ?_ ?_
         rotate_left;(rintro w' ⟨s0,s1,s2,s3,s4,s5,s6,s7,s8,s9,s10,s11,s12,s13,s14,s15,s16,s17,s18,s19,s20,s21⟩;go_simp;with_reducible rfl);rotate_left;(simp only [Act.put,setIfInBounds_toArray,set_cons_zero,set_cons_succ,i64_w,i32_w];rfl)
         refine pure_ (i:=35) (N:=some 141) (v:=?_) (a':=?_) #[true,true,true,true,true,true,true,true,true,true,true,true,true,true,true,true,true,true,true,true,true,true,true,true,true,true,true,true,true,true,true,true,true,true,true,true,false,false,true,false,true,false,false,false,false,false] rfl rfl (any_of HT_.out (by kernel_rfl)) (fun _ _ _ h => h) (Or.inl ⟨by rfl,?_⟩) ?_ ?_
         rotate_left;(intro w';go_simp;with_reducible rfl);rotate_left;(simp only [Act.put,setIfInBounds_toArray,set_cons_zero,set_cons_succ,i64_w,i32_w];rfl)
         refine pure_ (i:=36) (N:=some 142) (v:=?_) (a':=?_) #[true,true,true,true,true,true,true,true,true,true,true,true,true,true,true,true,true,true,true,true,true,true,true,true,true,true,true,true,true,true,true,true,true,true,true,true,true,false,true,false,true,false,false,false,false,false] rfl rfl (any_of HT_.out (by kernel_rfl)) (fun _ _ _ h => h) (Or.inl ⟨by rfl,?_⟩) ?_ ?_
         rotate_left;(intro w';go_simp;with_reducible rfl);rotate_left;(simp only [Act.put,setIfInBounds_toArray,set_cons_zero,set_cons_succ,i64_w,i32_w];rfl)
         refine take_ (i:=37) (N:=some 143) (v:=?_) (a':=?_) #[true,true,true,true,true,true,true,true,true,true,true,true,true,true,true,true,true,true,true,true,true,true,true,true,true,true,true,true,true,true,true,true,true,true,true,true,true,true,true,false,true,false,false,false,false,false] rfl rfl (take_ofW HT_.out HW_.out (by kernel_rfl)) (fun _ _ _ h => h) (Or.inl ⟨by rfl,?_⟩) hHeld ?_ ?_
         rotate_left;(rintro w' ⟨s0,s1,s2,s3,s4,s5,s6,s7,s8,s9,s10,s11,s12,s13,s14,s15,s16,s17,s18,s19,s20,s21⟩;go_simp;with_reducible rfl);rotate_left;(simp only [Act.put,setIfInBounds_toArray,set_cons_zero,set_cons_succ,i64_w,i32_w];rfl)
         refine take_ (i:=39) (N:=some 145) (v:=?_) (a':=?_) #[true,true,true,true,true,true,true,true,true,true,true,true,true,true,true,true,true,true,true,true,true,true,true,true,true,true,true,true,true,true,true,true,true,true,true,true,true,true,true,true,true,false,false,false,false,false] rfl rfl (take_ofW HT_.out HW_.out (by kernel_rfl)) (fun _ _ _ h => h) (Or.inl ⟨by rfl,?_⟩) hHeld ?_ ?_
         rotate_left;(rintro w' ⟨s0,s1,s2,s3,s4,s5,s6,s7,s8,s9,s10,s11,s12,s13,s14,s15,s16,s17,s18,s19,s20,s21⟩;go_simp;with_reducible rfl);rotate_left;(simp only [Act.put,setIfInBounds_toArray,set_cons_zero,set_cons_succ,i64_w,i32_w];rfl)
         refine pure_ (i:=41) (N:=some 147) (v:=?_) (a':=?_) #[true,true,true,true,true,true,true,true,true,true,true,true,true,true,true,true,true,true,true,true,true,true,true,true,true,true,true,true,true,true,true,true,true,true,true,true,true,true,true,true,true,true,false,false,false,false] rfl rfl (any_of HT_.out (by kernel_rfl)) (fun _ _ _ h => h) (Or.inl ⟨by rfl,?_⟩) ?_ ?_
         rotate_left;(intro w';go_simp;with_reducible rfl);rotate_left;(simp only [Act.put,setIfInBounds_toArray,set_cons_zero,set_cons_succ,i64_w,i32_w];rfl)
         refine pure_ (i:=42) (N:=some 148) (v:=?_) (a':=?_) #[true,true,true,true,true,true,true,true,true,true,true,true,true,true,true,true,true,true,true,true,true,true,true,true,true,true,true,true,true,true,true,true,true,true,true,true,true,true,true,true,true,true,true,false,false,false] rfl rfl (any_of HT_.out (by kernel_rfl)) (fun _ _ _ h => h) (Or.inl ⟨by rfl,?_⟩) ?_ ?_
         rotate_left;(intro w';go_simp;with_reducible rfl);rotate_left;(simp only [Act.put,setIfInBounds_toArray,set_cons_zero,set_cons_succ,i64_w,i32_w];rfl)
         refine take_ (i:=43) (N:=some 149) (v:=?_) (a':=?_) #[true,true,true,true,true,true,true,true,true,true,true,true,true,true,true,true,true,true,true,true,true,true,true,true,true,true,true,true,true,true,true,true,true,true,true,true,true,true,true,true,true,true,true,true,false,false] rfl rfl (take_ofW HT_.out HW_.out (by kernel_rfl)) (fun _ _ _ h => h) (Or.inl ⟨by rfl,?_⟩) hHeld ?_ ?_
         rotate_left;(rintro w' ⟨s0,s1,s2,s3,s4,s5,s6,s7,s8,s9,s10,s11,s12,s13,s14,s15,s16,s17,s18,s19,s20,s21⟩;go_simp;with_reducible rfl);rotate_left;(simp only [Act.put,setIfInBounds_toArray,set_cons_zero,set_cons_succ,i64_w,i32_w];rfl)
         refine pure_ (i:=44) (N:=some 150) (v:=?_) (a':=?_) #[true,true,true,true,true,true,true,true,true,true,true,true,true,true,true,true,true,true,true,true,true,true,true,true,true,true,true,true,true,true,true,true,true,true,true,true,true,true,true,true,true,true,true,true,true,false] rfl rfl (any_of HT_.out (by kernel_rfl)) (fun _ _ _ h => h) (Or.inl ⟨by rfl,?_⟩) ?_ ?_
         rotate_left;(intro w';go_simp;with_reducible rfl);rotate_left;(simp only [Act.put,setIfInBounds_toArray,set_cons_zero,set_cons_succ,i64_w,i32_w];rfl)
         refine pure_ (i:=45) (N:=some 151) (v:=?_) (a':=?_) #[true,true,true,true,true,true,true,true,true,true,true,true,true,true,true,true,true,true,true,true,true,true,true,true,true,true,true,true,true,true,true,true,true,true,true,true,true,true,true,true,true,true,true,true,true,true] rfl rfl (any_of HT_.out (by kernel_rfl)) (fun _ _ _ h => h) (Or.inl ⟨by rfl,?_⟩) ?_ ?_
         rotate_left;(intro w';go_simp;with_reducible rfl);rotate_left;(simp only [Act.put,setIfInBounds_toArray,set_cons_zero,set_cons_succ,i64_w,i32_w];rfl)
         refine done_ (done_of HT_.out (by kernel_rfl)) ?_
         try go_wp2
         go_roundg k4
         case measure => have:=HJ7.out;have:=HJ14.out;have:=HK3.out;have:=HK4.out;omega
         case rel => exact ⟨(wrap64 (x18_4 + 1)),(wrap64 (x19_4 + 1)),(by first|rfl|(simp;done)|(simp [*];done)),(by first|rfl|(simp;done)|(simp [*];done)),H',⟨by have:=HJ7.out;have:=HJ14.out;have:=HK3.out;have:=HK4.out;omega⟩,⟨by (with_reducible repeat (first|apply Kd.R_alloc|apply Kd.R_drewN|apply Kd.R_drew));exact HO_274000.out⟩,⟨by (with_reducible repeat (first|apply Kd.R_alloc|apply Kd.R_drewN|apply Kd.R_drew));exact HO_291000.out⟩,⟨by (with_reducible repeat (first|refine blk_drewN ?_ _|refine blk_drew ?_|refine blk_alloc ?_ _));exact BK265.out⟩,⟨by (with_reducible repeat (first|refine blk_drewN ?_ _|refine blk_drew ?_|refine blk_alloc ?_ _));exact BK273.out⟩,⟨by (with_reducible repeat (first|refine blk_drewN ?_ _|refine blk_drew ?_|refine blk_alloc ?_ _));exact BK290.out⟩,⟨by repeat (first|(with_reducible first|exact HB.out|apply below_alloc|apply pw_below_drewN|apply below_drew1|refine below_set ?_ GE265.out|refine below_set ?_ GE273.out|refine below_set ?_ GE290.out)|exact HB.out)⟩⟩
end Go.Proofs.Ytbecejhjdagkdaa.L
