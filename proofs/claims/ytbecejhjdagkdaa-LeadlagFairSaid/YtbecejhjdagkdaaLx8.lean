-- Written by pp.py (a program of this session, over the kit's print.py) out of the translation. Not trusted: Lean checks it.
import Derived.Test.YtbecejhjdagkdaaLx0
import Derived.Test.YtbecejhjdagkdaaLx1
import Derived.Test.YtbecejhjdagkdaaLx3
import Derived.Test.YtbecejhjdagkdaaLx4
import Derived.Test.YtbecejhjdagkdaaLx5
import Derived.Test.YtbecejhjdagkdaaLx7
namespace Go.Proofs.Ytbecejhjdagkdaa.L
open Go.RowKit Go.Proofs.YtbecejhjdagkdaaW.PrintWords Go.Proofs.YtbecejhjdagkdaaW.PrintLast Go.Proofs.YtbecejhjdagkdaaW.PrintMore
attribute [local go_sem] max2_int min2_int max_two min_two max_three min_three max_four min_four   -- for this text's walks alone
attribute [local go_sem] pp_mod256 pp_mod256_w
set_option linter.unusedVariables false
set_option linter.unusedSimpArgs false

/-! ### plenumlaw55_awake: function 8 -/
mutual
def plenumlaw55_awake.l0 : Nat→Int→List Int→Int→List (S62)→Int→Int→Int→Int→Option (Bool)
 | 0,_,_,_,_,_,_,_,_ => none
 | k + 1,x2,x4,x5,x203000,x203001,x203002,x204000,x204001 => if x5 < (x4.length : Int) then (if 0 ≤ x5 then (plenumlaw55_awake.l0 k x2 (x4.set (x5 : Int).toNat 1) (wrap64 (x5 + 1)) x203000 x203001 x203002 x204000 x204001) else (none)) else ((leadlag_Play.f k x204000 x204001 x203000 x203001 x203002 x4 0).bind fun bt208 => (if x2 = 0 then (if bt208.2 = 0 then (if (bt208.1.length : Int) = 101 then (if 99 < (bt208.1.length : Int) then ((leadlag_Running.f k ((rd_T32 bt208.1 99).f0) ((rd_T32 bt208.1 99).f1) ((rd_T32 bt208.1 99).f2)).bind fun t213 => (if 100 < (bt208.1.length : Int) then ((leadlag_Running.f k ((rd_T32 bt208.1 100).f0) ((rd_T32 bt208.1 100).f1) ((rd_T32 bt208.1 100).f2)).bind fun t217 => (plenumlaw55_awake.l1 k x4 bt208.1 t213 t217 0 x203000 x203001 x203002 x204000 x204001)) else (none))) else (none)) else (some false)) else (none)) else (none)))
def plenumlaw55_awake.l1 : Nat→List Int→List (S32)→List Int→List Int→Int→List (S62)→Int→Int→Int→Int→Option (Bool)
 | 0,_,_,_,_,_,_,_,_,_,_ => none
 | k + 1,x4,x6,x8,x9,x10,x203000,x203001,x203002,x204000,x204001 => if x10 < 50 then (if 0 ≤ x10 then (if x10 < (x4.length : Int) then (plenumlaw55_awake.l1 k (x4.set (x10 : Int).toNat 2) x6 x8 x9 (wrap64 (x10 + 1)) x203000 x203001 x203002 x204000 x204001) else (none)) else (none)) else (if 51 ≤ (x4.length : Int) then ((leadlag_Play.f k x204000 x204001 x203000 x203001 x203002 (x4.take 51) 0).bind fun bt225 => (if bt225.2 = 0 then (if (bt225.1.length : Int) = 51 then (if (x8.length : Int) = 1 then (if (x9.length : Int) = 1 then (if 50 < (bt225.1.length : Int) then ((leadlag_Running.f k ((rd_T32 bt225.1 50).f0) ((rd_T32 bt225.1 50).f1) ((rd_T32 bt225.1 50).f2)).bind fun t230 => ((leadlag_Spread.f k ((rd_T32 bt225.1 50).f0) ((rd_T32 bt225.1 50).f1) ((rd_T32 bt225.1 50).f2)).bind fun bt234 => (if 0 < (x8.length : Int) then (if (rd x8 0) = 0 then (if 0 < (x9.length : Int) then (if (rd x9 0) = 1 then (if 100 < (x6.length : Int) then (if 0 < (((rd_T32 x6 100).f0).length : Int) then (if ((rd_T62 ((rd_T32 x6 100).f0) 0).f0) = 100 then (if (t230.length : Int) = 1 then (if 0 < (t230.length : Int) then (if (rd t230 0) = 1 then (if bt234.2 = 0 then (if bt234.1 = 10 then (if 5 < (bt225.1.length : Int) then ((leadlag_Short.f k ((rd_T32 bt225.1 5).f0) ((rd_T32 bt225.1 5).f1) ((rd_T32 bt225.1 5).f2) 2).bind fun t242 => (if t242 = 1 then (if 10 < (bt225.1.length : Int) then ((leadlag_Running.f k ((rd_T32 bt225.1 10).f0) ((rd_T32 bt225.1 10).f1) ((rd_T32 bt225.1 10).f2)).bind fun t244 => (if (t244.length : Int) = 2 then ((leadlag_Order.f k ((rd_T32 bt225.1 50).f0) ((rd_T32 bt225.1 50).f1) ((rd_T32 bt225.1 50).f2)).bind fun t248 => (if 0 < (t248.length : Int) then (if (rd t248 0) = 1 then ((leadlag_Check.f k x204000 x204001 x203000 x203001 x203002).bind fun t252 => (some (t252 == 0))) else (none)) else (none))) else (none))) else (none)) else (none))) else (none)) else (none)) else (none)) else (none)) else (none)) else (none)) else (none)) else (none)) else (none)) else (none)) else (none)) else (none)) else (none)))) else (none)) else (some false)) else (none)) else (none)) else (none))) else (none))
end
def plenumlaw55_awake.f (k : Nat)  : Option (Bool):=(leadlag_New.f k 2 0).bind fun bt196 => (if 101 ≤ 35184372088832 then (plenumlaw55_awake.l0 k bt196.2.2.2 (List.replicate 101 0) 0 bt196.1 bt196.2.1 bt196.2.2.1 100 10) else (none))
theorem plenumlaw55_awake.mono_l : ∀ k,(∀ y0 y1 y2 y3 y4 y5 y6 y7,LeO (plenumlaw55_awake.l0 k y0 y1 y2 y3 y4 y5 y6 y7) (plenumlaw55_awake.l0 (k + 1) y0 y1 y2 y3 y4 y5 y6 y7))∧(∀ y0 y1 y2 y3 y4 y5 y6 y7 y8 y9,LeO (plenumlaw55_awake.l1 k y0 y1 y2 y3 y4 y5 y6 y7 y8 y9) (plenumlaw55_awake.l1 (k + 1) y0 y1 y2 y3 y4 y5 y6 y7 y8 y9))
 | 0 => ⟨fun _ _ _ _ _ _ _ _ r h => by simp [plenumlaw55_awake.l0] at h,fun _ _ _ _ _ _ _ _ _ _ r h => by simp [plenumlaw55_awake.l1] at h⟩
 | k + 1 => by
  obtain ⟨ih0,ih1⟩:=plenumlaw55_awake.mono_l k
  refine ⟨?_,?_⟩
  ·intro y0 y1 y2 y3 y4 y5 y6 y7
   unfold plenumlaw55_awake.l0
   repeat' first
   | (with_reducible exact ih0 _ _ _ _ _ _ _ _)
   | (with_reducible exact ih1 _ _ _ _ _ _ _ _ _ _)
   | (with_reducible exact leadlag_Check.mono _ _ _ _ _ _)
   | (with_reducible exact leadlag_New.mono _ _ _)
   | (with_reducible exact leadlag_Order.mono _ _ _ _)
   | (with_reducible exact leadlag_Play.mono _ _ _ _ _ _ _ _)
   | (with_reducible exact leadlag_Running.mono _ _ _ _)
   | (with_reducible exact leadlag_Short.mono _ _ _ _ _)
   | (with_reducible exact leadlag_Spread.mono _ _ _ _)
   | (with_reducible exact LeO.refl _)
   | (with_reducible exact LeO.none _)
   | (with_reducible refine LeO.ite ?_ ?_)
   | (with_reducible refine LeO.bind ?_ (fun _ => ?_))
   | exact ih0 _ _ _ _ _ _ _ _
   | exact ih1 _ _ _ _ _ _ _ _ _ _
   | exact leadlag_Check.mono _ _ _ _ _ _
   | exact leadlag_New.mono _ _ _
   | exact leadlag_Order.mono _ _ _ _
   | exact leadlag_Play.mono _ _ _ _ _ _ _ _
   | exact leadlag_Running.mono _ _ _ _
   | exact leadlag_Short.mono _ _ _ _ _
   | exact leadlag_Spread.mono _ _ _ _
   | exact LeO.none _
   | refine LeO.ite ?_ ?_
   | refine LeO.bind ?_ (fun _ => ?_)
  ·intro y0 y1 y2 y3 y4 y5 y6 y7 y8 y9
   unfold plenumlaw55_awake.l1
   repeat' first
   | (with_reducible exact ih0 _ _ _ _ _ _ _ _)
   | (with_reducible exact ih1 _ _ _ _ _ _ _ _ _ _)
   | (with_reducible exact leadlag_Check.mono _ _ _ _ _ _)
   | (with_reducible exact leadlag_New.mono _ _ _)
   | (with_reducible exact leadlag_Order.mono _ _ _ _)
   | (with_reducible exact leadlag_Play.mono _ _ _ _ _ _ _ _)
   | (with_reducible exact leadlag_Running.mono _ _ _ _)
   | (with_reducible exact leadlag_Short.mono _ _ _ _ _)
   | (with_reducible exact leadlag_Spread.mono _ _ _ _)
   | (with_reducible exact LeO.refl _)
   | (with_reducible exact LeO.none _)
   | (with_reducible refine LeO.ite ?_ ?_)
   | (with_reducible refine LeO.bind ?_ (fun _ => ?_))
   | exact ih0 _ _ _ _ _ _ _ _
   | exact ih1 _ _ _ _ _ _ _ _ _ _
   | exact leadlag_Check.mono _ _ _ _ _ _
   | exact leadlag_New.mono _ _ _
   | exact leadlag_Order.mono _ _ _ _
   | exact leadlag_Play.mono _ _ _ _ _ _ _ _
   | exact leadlag_Running.mono _ _ _ _
   | exact leadlag_Short.mono _ _ _ _ _
   | exact leadlag_Spread.mono _ _ _ _
   | exact LeO.none _
   | refine LeO.ite ?_ ?_
   | refine LeO.bind ?_ (fun _ => ?_)
theorem plenumlaw55_awake.mono : ∀ k,LeO (plenumlaw55_awake.f k ) (plenumlaw55_awake.f (k + 1) ):=by
 intro  k
 obtain ⟨ih0,ih1⟩:=plenumlaw55_awake.mono_l k
 unfold plenumlaw55_awake.f
 repeat' first
   | (with_reducible exact ih0 _ _ _ _ _ _ _ _)
   | (with_reducible exact ih1 _ _ _ _ _ _ _ _ _ _)
   | (with_reducible exact leadlag_Check.mono _ _ _ _ _ _)
   | (with_reducible exact leadlag_New.mono _ _ _)
   | (with_reducible exact leadlag_Order.mono _ _ _ _)
   | (with_reducible exact leadlag_Play.mono _ _ _ _ _ _ _ _)
   | (with_reducible exact leadlag_Running.mono _ _ _ _)
   | (with_reducible exact leadlag_Short.mono _ _ _ _ _)
   | (with_reducible exact leadlag_Spread.mono _ _ _ _)
   | (with_reducible exact LeO.refl _)
   | (with_reducible exact LeO.none _)
   | (with_reducible refine LeO.ite ?_ ?_)
   | (with_reducible refine LeO.bind ?_ (fun _ => ?_))
   | exact ih0 _ _ _ _ _ _ _ _
   | exact ih1 _ _ _ _ _ _ _ _ _ _
   | exact leadlag_Check.mono _ _ _ _ _ _
   | exact leadlag_New.mono _ _ _
   | exact leadlag_Order.mono _ _ _ _
   | exact leadlag_Play.mono _ _ _ _ _ _ _ _
   | exact leadlag_Running.mono _ _ _ _
   | exact leadlag_Short.mono _ _ _ _ _
   | exact leadlag_Spread.mono _ _ _ _
   | exact LeO.none _
   | refine LeO.ite ?_ ?_
   | refine LeO.bind ?_ (fun _ => ?_)
def plenumlaw55_awake.T11 : Bool × List (List Nat × List Nat):=(true,[([],[]),([0],[0]),([1],[1]),([2],[2]),([],[]),([4],[4]),([5],[5]),([6,3],[6]),([3,7,0,1,2,3],[3]),([7,8,0,1,2,3,4,5,6,7,8],[7])])
def plenumlaw55_awake.B11 : List Nat:=[0,1,3,7,0,16,48,127,255,511]
theorem plenumlaw55_awake.tab11 : rtab .any (opsOf Try.f8 11) = plenumlaw55_awake.T11:=by kernel_rfl
theorem plenumlaw55_awake.bits11 : waitsOk plenumlaw55_awake.T11.2 plenumlaw55_awake.B11 = true:=by kernel_rfl
def plenumlaw55_awake.T16 : Bool × List (List Nat × List Nat):=(true,[([],[]),([],[]),([],[]),([2],[2]),([0,1,3],[0,1,3]),([4],[4]),([5],[5]),([5],[5]),([6,4,0,1,2,3,4,5,6],[6]),([7,8,0,1,2,3,4,5,6,7,8],[7])])
def plenumlaw55_awake.B16 : List Nat:=[0,0,0,4,15,31,63,63,127,511]
theorem plenumlaw55_awake.tab16 : rtab .any (opsOf Try.f8 16) = plenumlaw55_awake.T16:=by kernel_rfl
theorem plenumlaw55_awake.bits16 : waitsOk plenumlaw55_awake.T16.2 plenumlaw55_awake.B16 = true:=by kernel_rfl
set_option maxHeartbeats 8000000 in
set_option maxRecDepth 100000 in
theorem plenumlaw55_awake.calls (k : Nat)  (r : Bool) (w : World) (h : plenumlaw55_awake.f k  = some r) :
  Calls Try.prog 8 #[] w fun e w' => e = .returned (.bool r)∧Below w.heap.size w w':=by
 have hu32:=Try.underlying32
 have hu43:=Try.underlying43
 have HB:=Aside0.mk (Below.refl w.heap.size w)
 have H : ((leadlag_New.f k 2 0).bind fun bt196 => (if 101 ≤ 35184372088832 then (plenumlaw55_awake.l0 k bt196.2.2.2 (List.replicate 101 0) 0 bt196.1 bt196.2.1 bt196.2.2.1 100 10) else (none))) = some r:=h
 clear h
 replace H:=Option.bind_eq_some_iff.mp H
 obtain ⟨⟨t196,t199,t200,t201⟩,A10,H⟩:=H
 replace H : (if 101 ≤ 35184372088832 then (plenumlaw55_awake.l0 k t201 (List.replicate 101 0) 0 t196 t199 t200 100 10) else (none)) = some r:=H
 have A1:=Aside0.mk A10
 clear A10
 by_cases c2 : 101 ≤ 35184372088832
 rotate_left
 ·rw [if_neg c2] at H
  exact absurd H (by simp)

 rw [if_pos c2] at H
 have c2b0:=eq_true c2
 have c2b1 : decide (101 ≤ 35184372088832) = true:=decide_eq_true c2
 clear c2
 obtain ⟨y204,hy204⟩ : ∃ y_ : List Int,y_ = (List.replicate 101 0):=⟨_,rfl⟩
 replace H : (plenumlaw55_awake.l0 k t201 y204 0 t196 t199 t200 100 10) = some r:=by first|(rw [hy204];with_reducible exact H)|(have H2_:=(Option.bind_some _ _).symm.trans H;rw [hy204];with_reducible exact H2_)|(have H2_:=(Option.bind_some _ _).symm.trans H;with_reducible exact H2_)|with_reducible exact H|(rw [hy204];exact H)|exact H
 have Ny204:=Aside0.mk hy204
 clear hy204
 have H':=Aside0.mk H
 clear H
 go_enter Try.func8,Try.ntmps8
 go_wp2_with (first|((with_reducible refine gate_callee (f:=10) rfl ?_);refine goesL_ (some 17) rfl rfl Try.func10 (by kernel_rfl) rfl #[.int .i64 2,.int .i64 0] rfl (by (try simp only [List.map_toArray,List.map_cons,List.map_nil]);first|done|rfl|(simp only [List.length_drop,List.length_take];rfl)) ?_;(with_reducible refine (leadlag_New.calls k 2 0 t196 t199 t200 t201 _ A1.out).mono ?_);rintro e w3 ⟨v197,rfl,ho0,hb⟩;refine ⟨_,rfl,?_⟩;have n0_:=Aside0.mk (Kd.R_lower ho0 (below_size (by repeat (first|(with_reducible first|exact HB.out|apply below_alloc|apply pw_below_drewN|apply below_drew1)|exact HB.out))));have n1_:=Aside0.mk (below_step (by repeat (first|(with_reducible first|exact HB.out|apply below_alloc|apply pw_below_drewN|apply below_drew1)|exact HB.out)) hb);clear HB;have HO198:=n0_;have HB:=n1_;clear n0_ n1_;(try clear hb);(try clear hb2);(try clear hk);(try clear hi);(try clear ho0))|((with_reducible refine gate_dst (N:=1) rfl ?_);refine box_event ?hg (N:=1) ?hd (cs:=#[.slice none 0 0,.int .i64 0,.int .i64 0]) (t:=32) ?hr ?_;(case hd => rfl);(case hg => rfl);(case hr => first|(go_simp;done)|(go_simp;rfl));intro gb202 hg w4 hbox hb;have n0_:=Aside0.mk (Kd.R_below (by (with_reducible repeat (first|apply Kd.R_alloc|apply Kd.R_drewN|apply Kd.R_drew));exact HO198.out) hb);have n1_:=Aside0.mk (below_step (by repeat (first|(with_reducible first|exact HB.out|apply below_alloc|apply pw_below_drewN|apply below_drew1)|exact HB.out)) hb);have n2_:=Aside0.mk (hbox);have n3_:=Aside0.mk ((by rw [hg];exact (below_size (by repeat (first|(with_reducible first|exact HB.out|apply below_alloc|apply pw_below_drewN|apply below_drew1)|exact HB.out))) : w.heap.size ≤ gb202));have n4_:=Aside0.mk ((by rw [hg];exact (below_size (by repeat (first|(with_reducible first|exact HB.out|apply below_alloc|apply pw_below_drewN|apply below_drew1)|exact HB.out))) : w.heap.size ≤ gb202));clear HO198;clear HB;have HO198:=n0_;have HB:=n1_;have BK202:=n2_;have GW202:=n3_;have GE202:=n4_;clear n0_ n1_ n2_ n3_ n4_;clear hb hbox hg;obtain ⟨Ao5,co5,eo5⟩:=Kd.R_slice HO198.out;subst eo5;have hcz6_0 : w4.cell? ⟨gb202,0,none⟩ = some (.slice none 0 0):=(blk_cell BK202.out 0).trans rfl;have hcz6_1 : w4.cell? ⟨gb202,1,none⟩ = some (.int .i64 0):=(blk_cell BK202.out 1).trans rfl;have hcz6_2 : w4.cell? ⟨gb202,2,none⟩ = some (.int .i64 0):=(blk_cell BK202.out 2).trans rfl;have hfz6_0:=blk_frozen BK202.out 0;have hfz6_1:=blk_frozen BK202.out 1;have hfz6_2:=blk_frozen BK202.out 2)|((with_reducible refine gate_dst (N:=3) rfl ?_);refine box_event ?hg (N:=3) ?hd (cs:=#[.int .i64 0,.int .i64 0]) (t:=43) ?hr ?_;(case hd => rfl);(case hg => rfl);(case hr => first|(go_simp;done)|(go_simp;rfl));intro gb203 hg w7 hbox hb;have n0_:=Aside0.mk (Kd.R_below (by (with_reducible repeat (first|apply Kd.R_alloc|apply Kd.R_drewN|apply Kd.R_drew));exact (Kd.R_mono (Kd.R_far (p:=⟨gb202,2,none⟩) (Kd.R_far (p:=⟨gb202,1,none⟩) (Kd.R_far (p:=⟨gb202,0,none⟩) (Kd.R_types HO198.out BK202.out (by decide)) (fun _ hk => hk.2) (.slice Ao5 t196.length co5)) (fun _ hk => hk.2) (.int .i64 t199)) (fun _ hk => hk.2) (.int .i64 t200)) (fun _ h_ => h_.1))) hb);have n1_:=Aside0.mk (blk_below (g:=gb202) (o:=.cells #[.slice Ao5 t196.length co5,.int .i64 t199,.int .i64 t200] 32 (0,0)) (by (with_reducible repeat (first|refine blk_drewN ?_ _|refine blk_drew ?_|refine blk_alloc ?_ _));refine blk_put (cs:=#[.slice Ao5 t196.length co5,.int .i64 t199,.int .i64 0]) ?_ 2 _ rfl;(with_reducible repeat (first|refine blk_drewN ?_ _|refine blk_drew ?_|refine blk_alloc ?_ _));refine blk_put (cs:=#[.slice Ao5 t196.length co5,.int .i64 0,.int .i64 0]) ?_ 1 _ rfl;(with_reducible repeat (first|refine blk_drewN ?_ _|refine blk_drew ?_|refine blk_alloc ?_ _));refine blk_put (cs:=#[.slice none 0 0,.int .i64 0,.int .i64 0]) ?_ 0 _ rfl;(with_reducible repeat (first|refine blk_drewN ?_ _|refine blk_drew ?_|refine blk_alloc ?_ _));exact BK202.out) hb);have n2_:=Aside0.mk (below_step (by repeat (first|(with_reducible first|exact HB.out|apply below_alloc|apply pw_below_drewN|apply below_drew1|refine below_set ?_ GE202.out)|exact HB.out)) hb);have n3_:=Aside0.mk (hbox);have n4_:=Aside0.mk ((by rw [hg];exact (below_size (by repeat (first|(with_reducible first|exact HB.out|apply below_alloc|apply pw_below_drewN|apply below_drew1|refine below_set ?_ GE202.out)|exact HB.out))) : w.heap.size ≤ gb203));have n5_:=Aside0.mk ((by rw [hg];exact (below_size (by repeat (first|(with_reducible first|exact HB.out|apply below_alloc|apply pw_below_drewN|apply below_drew1|refine below_set ?_ GE202.out)|exact HB.out))) : w.heap.size ≤ gb203));have n6_:=Aside0.mk ((by rw [hg];exact Nat.ne_of_lt (blk_lt (g:=gb202) (o:=.cells #[.slice Ao5 t196.length co5,.int .i64 t199,.int .i64 t200] 32 (0,0)) (by (with_reducible repeat (first|refine blk_drewN ?_ _|refine blk_drew ?_|refine blk_alloc ?_ _));refine blk_put (cs:=#[.slice Ao5 t196.length co5,.int .i64 t199,.int .i64 0]) ?_ 2 _ rfl;(with_reducible repeat (first|refine blk_drewN ?_ _|refine blk_drew ?_|refine blk_alloc ?_ _));refine blk_put (cs:=#[.slice Ao5 t196.length co5,.int .i64 0,.int .i64 0]) ?_ 1 _ rfl;(with_reducible repeat (first|refine blk_drewN ?_ _|refine blk_drew ?_|refine blk_alloc ?_ _));refine blk_put (cs:=#[.slice none 0 0,.int .i64 0,.int .i64 0]) ?_ 0 _ rfl;(with_reducible repeat (first|refine blk_drewN ?_ _|refine blk_drew ?_|refine blk_alloc ?_ _));exact BK202.out)) : gb202 ≠ gb203));have n7_:=Aside0.mk ((by rw [hg];exact Nat.ne_of_gt (blk_lt (g:=gb202) (o:=.cells #[.slice Ao5 t196.length co5,.int .i64 t199,.int .i64 t200] 32 (0,0)) (by (with_reducible repeat (first|refine blk_drewN ?_ _|refine blk_drew ?_|refine blk_alloc ?_ _));refine blk_put (cs:=#[.slice Ao5 t196.length co5,.int .i64 t199,.int .i64 0]) ?_ 2 _ rfl;(with_reducible repeat (first|refine blk_drewN ?_ _|refine blk_drew ?_|refine blk_alloc ?_ _));refine blk_put (cs:=#[.slice Ao5 t196.length co5,.int .i64 0,.int .i64 0]) ?_ 1 _ rfl;(with_reducible repeat (first|refine blk_drewN ?_ _|refine blk_drew ?_|refine blk_alloc ?_ _));refine blk_put (cs:=#[.slice none 0 0,.int .i64 0,.int .i64 0]) ?_ 0 _ rfl;(with_reducible repeat (first|refine blk_drewN ?_ _|refine blk_drew ?_|refine blk_alloc ?_ _));exact BK202.out)) : gb203 ≠ gb202));clear HO198;clear BK202;clear HB;have HO198:=n0_;have BK202:=n1_;have HB:=n2_;have BK203:=n3_;have GW203:=n4_;have GE203:=n5_;have NB202_203:=n6_;have NB203_202:=n7_;clear n0_ n1_ n2_ n3_ n4_ n5_ n6_ n7_;clear hb hbox hg;have hnb8:=NB203_202.out;have hnc8:=NB202_203.out;have hcz9_0 : w7.cell? ⟨gb203,0,none⟩ = some (.int .i64 0):=(blk_cell BK203.out 0).trans rfl;have hcz9_1 : w7.cell? ⟨gb203,1,none⟩ = some (.int .i64 0):=(blk_cell BK203.out 1).trans rfl;have hfz9_0:=blk_frozen BK203.out 0;have hfz9_1:=blk_frozen BK203.out 1)|((with_reducible refine gate_dst (N:=21) rfl ?_);refine Kd.R_make (Kd.int .i64) _ 3 rfl (N:=21) rfl 49 _ _ rfl 101 rfl rfl Try.underlying49 (.int .i64 0) 8 info3 rfl (by decide) (by omega) 0 (ok:=fun _ => True) (okp:=fun _ => True) rfl (fun _ hk => hk) trivial (by omega) (by omega) (Below.refl _ _) (Nat.le_refl _) ?_;intro v205 w10 ho11 hb hg_ hnew_;clear hg_ hnew_;(first|rw [← Ny204.out] at ho11|(simp only [Int.reduceToNat] at ho11;rw [← Ny204.out] at ho11));have n0_:=Aside0.mk (Kd.R_below (by (with_reducible repeat (first|apply Kd.R_alloc|apply Kd.R_drewN|apply Kd.R_drew));exact (Kd.R_mono (Kd.R_far (p:=⟨gb203,1,none⟩) (Kd.R_far (p:=⟨gb203,0,none⟩) (Kd.R_types HO198.out BK203.out (by decide)) (fun _ hk => hk.2) (.int .i64 100)) (fun _ hk => hk.2) (.int .i64 10)) (fun _ h_ => h_.1))) hb);have n1_:=Aside0.mk (Kd.R_lower ho11 (below_size (by repeat (first|(with_reducible first|exact HB.out|apply below_alloc|apply pw_below_drewN|apply below_drew1|refine below_set ?_ GE202.out|refine below_set ?_ GE203.out)|exact HB.out))));have n2_:=Aside0.mk (blk_below (g:=gb202) (o:=.cells #[.slice Ao5 t196.length co5,.int .i64 t199,.int .i64 t200] 32 (0,0)) (by (with_reducible repeat (first|refine blk_drewN ?_ _|refine blk_drew ?_|refine blk_alloc ?_ _));refine blk_far ?_ NB202_203.out _;(with_reducible repeat (first|refine blk_drewN ?_ _|refine blk_drew ?_|refine blk_alloc ?_ _));refine blk_far ?_ NB202_203.out _;(with_reducible repeat (first|refine blk_drewN ?_ _|refine blk_drew ?_|refine blk_alloc ?_ _));exact BK202.out) hb);have n3_:=Aside0.mk (blk_below (g:=gb203) (o:=.cells #[.int .i64 100,.int .i64 10] 43 (0,0)) (by (with_reducible repeat (first|refine blk_drewN ?_ _|refine blk_drew ?_|refine blk_alloc ?_ _));refine blk_put (cs:=#[.int .i64 100,.int .i64 0]) ?_ 1 _ rfl;(with_reducible repeat (first|refine blk_drewN ?_ _|refine blk_drew ?_|refine blk_alloc ?_ _));refine blk_put (cs:=#[.int .i64 0,.int .i64 0]) ?_ 0 _ rfl;(with_reducible repeat (first|refine blk_drewN ?_ _|refine blk_drew ?_|refine blk_alloc ?_ _));exact BK203.out) hb);have n4_:=Aside0.mk (below_step (by repeat (first|(with_reducible first|exact HB.out|apply below_alloc|apply pw_below_drewN|apply below_drew1|refine below_set ?_ GE202.out|refine below_set ?_ GE203.out)|exact HB.out)) hb);clear HO198;clear BK202;clear BK203;clear HB;have HO198:=n0_;have HO206:=n1_;have BK202:=n2_;have BK203:=n3_;have HB:=n4_;clear n0_ n1_ n2_ n3_ n4_;clear hb ho11)|(go_at_call 10;(with_reducible refine (leadlag_New.calls k 2 0 t196 t199 t200 t201 _ A1.out).mono ?_);rintro e w3 ⟨v197,rfl,ho0,hb⟩;have n0_:=Aside0.mk (Kd.R_lower ho0 (below_size (by repeat (first|(with_reducible first|exact HB.out|apply below_alloc|apply pw_below_drewN|apply below_drew1)|exact HB.out))));have n1_:=Aside0.mk (below_step (by repeat (first|(with_reducible first|exact HB.out|apply below_alloc|apply pw_below_drewN|apply below_drew1)|exact HB.out)) hb);clear HB;have HO198:=n0_;have HB:=n1_;clear n0_ n1_;(try clear hb);(try clear hb2);(try clear hk);(try clear hi);(try clear ho0)))
 go_loopg [5] k (fun kq v5 w' => ∃ (x4_1 : List Int) (x5_1 : Int),v5 = .int .i64 x5_1∧Aside0 (plenumlaw55_awake.l0 kq t201 x4_1 x5_1 t196 t199 t200 100 10 = some r)∧Aside0 (kq ≤ k)∧Aside0 (Kd.R (Kd.int .i64) 3 w' w.heap.size (fun _ => True) v205 x4_1)∧Aside0 (Kd.R k62 62 w' w.heap.size (fun _ => True) (.slice Ao5 t196.length co5) t196)∧Aside0 (w'.heap[gb202]? = some (.cells #[(.slice Ao5 t196.length co5),.int .i64 t199,.int .i64 t200] 32 (0,0)))∧Aside0 (w'.heap[gb203]? = some (.cells #[.int .i64 100,.int .i64 10] 43 (0,0)))∧Aside0 (Below w.heap.size w w'))
 case atStart => exact ⟨(y204),(0),(by first|rfl|(simp;done)|(simp [*];done)),H',⟨Nat.le_refl _⟩,⟨by (with_reducible repeat (first|apply Kd.R_alloc|apply Kd.R_drewN|apply Kd.R_drew));exact HO206.out⟩,⟨by (with_reducible repeat (first|apply Kd.R_alloc|apply Kd.R_drewN|apply Kd.R_drew));exact HO198.out⟩,⟨by (with_reducible repeat (first|refine blk_drewN ?_ _|refine blk_drew ?_|refine blk_alloc ?_ _));exact BK202.out⟩,⟨by (with_reducible repeat (first|refine blk_drewN ?_ _|refine blk_drew ?_|refine blk_alloc ?_ _));exact BK203.out⟩,⟨by repeat (first|(with_reducible first|exact HB.out|apply below_alloc|apply pw_below_drewN|apply below_drew1|refine below_set ?_ GE202.out|refine below_set ?_ GE203.out)|exact HB.out)⟩⟩
 case round =>
  clear H'
  (try clear c1);(try clear c2);(try clear c2b0);(try clear c2b1);(try clear p2);(try clear c8);(try clear c10);(try clear hcz6_0);(try clear hcz6_1);(try clear hcz6_2);(try clear hcz9_0);(try clear hcz9_1);(try clear hfz6_0);(try clear hfz6_1);(try clear hfz6_2);(try clear hfz9_0);(try clear hfz9_1)
  obtain ⟨x4_1,x5_1,rfl,HA,HK1,HO_4,HO_203000,BK202,BK203,HB⟩:=hrel
  cases gk with
  | zero => exact absurd HA.out (by simp [plenumlaw55_awake.l0])
  | succ k1 =>
   have H:=HA.out
   clear HA
   simp only [plenumlaw55_awake.l0] at H
   by_cases c12 : x5_1 < (x4_1.length : Int)
   ·rw [if_pos c12] at H
    have c12b0 : decide (x5_1 < (x4_1.length : Int)) = true:=decide_eq_true c12
    clear c12
    by_cases c13 : 0 ≤ x5_1
    rotate_left
    ·rw [if_neg c13] at H
     exact absurd H (by simp)
    rw [if_pos c13] at H
    have c13b0 : decide (0 ≤ x5_1) = true:=decide_eq_true c13
    clear c13
    obtain ⟨y207,hy207⟩ : ∃ y_ : List Int,y_ = (x4_1.set (x5_1 : Int).toNat 1):=⟨_,rfl⟩
    replace H : (plenumlaw55_awake.l0 k1 t201 y207 (wrap64 (x5_1 + 1)) t196 t199 t200 100 10) = some r:=by first|(rw [hy207];with_reducible exact H)|(have H2_:=(Option.bind_some _ _).symm.trans H;rw [hy207];with_reducible exact H2_)|(have H2_:=(Option.bind_some _ _).symm.trans H;with_reducible exact H2_)|with_reducible exact H|(rw [hy207];exact H)|exact H
    have Ny207:=Aside0.mk hy207
    clear hy207
    have H':=Aside0.mk H
    clear H
    obtain ⟨Ao15,co15,eo15⟩:=Kd.R_slice HO_4.out
    subst eo15
    have p14 : 0 ≤ (x5_1 : Int):=of_decide_eq_true (by first|(with_reducible assumption)|assumption)
    have q14 : (x5_1 : Int) < ((x4_1.length : Int) : Int):=of_decide_eq_true (by first|(with_reducible assumption)|assumption)
    obtain ⟨go14,co14,eo14,gb14,gl14,cl14,HG14⟩:=Kd.R_form HO_4.out (by omega)
    (first|cases eo14|(injection eo14 with ea_ en_ ec_;(first|subst ea_|(injection ea_ with ea_;subst ea_));subst ec_;clear en_))
    have GB14:=Aside0.mk gb14
    have GG14:=Aside0.mk HG14
    clear gb14 gl14 HG14
    obtain ⟨hx14_0,hf14_0⟩:=Kd.R_celln 0 HO_4.out (x5_1 : Int) p14 q14
    replace p14:=eq_true p14
    replace q14:=eq_true q14
    have HP16:=Kd.R_putg HO_4.out (x5_1 : Int) 1
    go_wp2_with (first|((with_reducible refine gate_store (t:=3) (p:=30) rfl ?_);refine store_event (t:=3) (p:=30) (v:=?vo_w17) (w1:=(wr.setCell ⟨go14,(x5_1 : Int).toNat,none⟩ (.int .i64 1))) ?hg ?ho ?hn ?hr ?_;(case ho => rfl);(case hg => rfl);(case hn => rfl);(case hr => first|(go_simp;done)|(go_simp;rfl));intro w17 hw;have hg : wr.grownBy w17 (some go14):=(by rw [hw];exact HP16.2);have hp_ : Kd.R (Kd.int .i64) 3 w17 w.heap.size (fun _ => True) (.slice (some ⟨go14,0,none⟩) x4_1.length co15) y207:=(by rw [hw,Ny207.out];exact HP16.1);clear HP16;have n0_:=Aside0.mk (hp_);have n1_:=Aside0.mk (Kd.R_over' (v:=(.slice (some ⟨go14,0,none⟩) x4_1.length co15)) (by (with_reducible repeat (first|apply Kd.R_alloc|apply Kd.R_drewN|apply Kd.R_drew));exact HO_203000.out) (Kd.R_typed HO_4.out) (by decide) hg);have n2_:=Aside0.mk (blk_grown (g:=gb202) (o:=.cells #[.slice Ao5 t196.length co5,.int .i64 t199,.int .i64 t200] 32 (0,0)) (by (with_reducible repeat (first|refine blk_drewN ?_ _|refine blk_drew ?_|refine blk_alloc ?_ _));exact BK202.out) hg (Kd.R_ne HO_4.out BK202.out (by decide)));have n3_:=Aside0.mk (blk_grown (g:=gb203) (o:=.cells #[.int .i64 100,.int .i64 10] 43 (0,0)) (by (with_reducible repeat (first|refine blk_drewN ?_ _|refine blk_drew ?_|refine blk_alloc ?_ _));exact BK203.out) hg (Kd.R_ne HO_4.out BK203.out (by decide)));have n4_:=Aside0.mk ((by rw [hw];exact below_set (HB.out) GB14.out : Below w.heap.size w w17));clear HO_4;clear HO_203000;clear BK202;clear BK203;clear HB;have HO_4:=n0_;have HO_203000:=n1_;have BK202:=n2_;have BK203:=n3_;have HB:=n4_;clear n0_ n1_ n2_ n3_ n4_;clear hg hw hp_))
    go_roundg k1
    case measure => have:=HK1.out;omega
    case rel => exact ⟨(y207),(wrap64 (x5_1 + 1)),(by first|rfl|(simp;done)|(simp [*];done)),H',⟨by have:=HK1.out;omega⟩,⟨by (with_reducible repeat (first|apply Kd.R_alloc|apply Kd.R_drewN|apply Kd.R_drew));exact HO_4.out⟩,⟨by (with_reducible repeat (first|apply Kd.R_alloc|apply Kd.R_drewN|apply Kd.R_drew));exact HO_203000.out⟩,⟨by (with_reducible repeat (first|refine blk_drewN ?_ _|refine blk_drew ?_|refine blk_alloc ?_ _));exact BK202.out⟩,⟨by (with_reducible repeat (first|refine blk_drewN ?_ _|refine blk_drew ?_|refine blk_alloc ?_ _));exact BK203.out⟩,⟨by repeat (first|(with_reducible first|exact HB.out|apply below_alloc|apply pw_below_drewN|apply below_drew1|refine below_set ?_ GE202.out|refine below_set ?_ GE203.out)|exact HB.out)⟩⟩
   rw [if_neg c12] at H
   have c12b0 : decide (x5_1 < (x4_1.length : Int)) = false:=decide_eq_false c12
   clear c12
   replace H:=Option.bind_eq_some_iff.mp H
   obtain ⟨⟨t208,t211⟩,A180,H⟩:=H
   replace H : (if t201 = 0 then (if t211 = 0 then (if (t208.length : Int) = 101 then (if 99 < (t208.length : Int) then ((leadlag_Running.f k1 ((rd_T32 t208 99).f0) ((rd_T32 t208 99).f1) ((rd_T32 t208 99).f2)).bind fun t213 => (if 100 < (t208.length : Int) then ((leadlag_Running.f k1 ((rd_T32 t208 100).f0) ((rd_T32 t208 100).f1) ((rd_T32 t208 100).f2)).bind fun t217 => (plenumlaw55_awake.l1 k1 x4_1 t208 t213 t217 0 t196 t199 t200 100 10)) else (none))) else (none)) else (some false)) else (none)) else (none)) = some r:=H
   have A18:=Aside0.mk A180
   clear A180
   by_cases c19 : t201 = 0
   rotate_left
   ·rw [if_neg c19] at H
    exact absurd H (by simp)
   rw [if_pos c19] at H
   have c19b0 : (t201 == 0) = true:=beq_iff_eq.mpr c19
   have c19b1 : (t201 != 0) = false:=bne_eq_false_iff_eq.mpr c19
   clear c19
   by_cases c20 : t211 = 0
   rotate_left
   ·rw [if_neg c20] at H
    exact absurd H (by simp)
   rw [if_pos c20] at H
   have c20b0 : (t211 == 0) = true:=beq_iff_eq.mpr c20
   have c20b1 : (t211 != 0) = false:=bne_eq_false_iff_eq.mpr c20
   clear c20
   by_cases c21 : (t208.length : Int) = 101
   rotate_left
   ·rw [if_neg c21] at H
    have c21b0 : ((t208.length : Int) == 101) = false:=beq_eq_false_iff_ne.mpr c21
    have c21b1 : ((t208.length : Int) != 101) = true:=bne_iff_ne.mpr c21
    obtain rfl:=Option.some.inj H
    obtain ⟨Ao96,co96,eo96⟩:=Kd.R_slice HO_4.out
    subst eo96
    have hnb97:=NB203_202.out
    have hnc97:=NB202_203.out
    have hcz98_0 : wr.cell? ⟨gb203,0,none⟩ = some (.int .i64 100):=(blk_cell BK203.out 0).trans rfl
    have hcz98_1 : wr.cell? ⟨gb203,1,none⟩ = some (.int .i64 10):=(blk_cell BK203.out 1).trans rfl
    have hfz98_0:=blk_frozen BK203.out 0
    have hfz98_1:=blk_frozen BK203.out 1
    have hcz99_0 : wr.cell? ⟨gb202,0,none⟩ = some (.slice Ao5 t196.length co5):=(blk_cell BK202.out 0).trans rfl
    have hcz99_1 : wr.cell? ⟨gb202,1,none⟩ = some (.int .i64 t199):=(blk_cell BK202.out 1).trans rfl
    have hcz99_2 : wr.cell? ⟨gb202,2,none⟩ = some (.int .i64 t200):=(blk_cell BK202.out 2).trans rfl
    have hfz99_0:=blk_frozen BK202.out 0
    have hfz99_1:=blk_frozen BK202.out 1
    have hfz99_2:=blk_frozen BK202.out 2
    go_wp2_with (first|((with_reducible refine gate_callee (f:=26) rfl ?_);refine goesL_ (some 35) rfl rfl Try.func26 (by kernel_rfl) rfl #[.agg #[.int .i64 100,.int .i64 10],.agg #[.slice Ao5 t196.length co5,.int .i64 t199,.int .i64 t200],.slice Ao96 x4_1.length co96,.int .i64 0] rfl (by (try simp only [List.map_toArray,List.map_cons,List.map_nil]);first|done|rfl|(simp only [List.length_drop,List.length_take];rfl)) ?_;(with_reducible refine (leadlag_Play.calls k1 100 10 _ _ t196 t199 t200 _ _ x4_1 0 t208 t211 _ ?side1 ?side2 ?side3 ?side4 A18.out).mono ?_);(case side1 => repeat (first|exact (Kd.R_reads' HO_203000.out).2.2|(with_reducible refine Kd.C_alloc ?_ _)|(with_reducible refine Kd.C_drewN ?_ _)|(with_reducible refine Kd.C_drew ?_)));(case side2 => exact (Kd.R_reads' HO_203000.out).2.1);(case side3 => repeat (first|exact (Kd.R_reads' HO_4.out).2.2|(with_reducible refine Kd.C_alloc ?_ _)|(with_reducible refine Kd.C_drewN ?_ _)|(with_reducible refine Kd.C_drew ?_)));(case side4 => exact (Kd.R_reads' HO_4.out).2.1);rintro e w100 ⟨v209,rfl,ho0,hb⟩;refine ⟨_,rfl,?_⟩;have n0_:=Aside0.mk (Kd.R_below (by (with_reducible repeat (first|apply Kd.R_alloc|apply Kd.R_drewN|apply Kd.R_drew));exact HO_4.out) hb);have n1_:=Aside0.mk (Kd.R_below (by (with_reducible repeat (first|apply Kd.R_alloc|apply Kd.R_drewN|apply Kd.R_drew));exact HO_203000.out) hb);have n2_:=Aside0.mk (Kd.S_lower (Kd.S_newB (Kd.S_new' ho0 (Kd.R_lt (by (with_reducible repeat (first|apply Kd.R_alloc|apply Kd.R_drewN|apply Kd.R_drew));exact HO_203000.out))) (g:=gb202) (o:=.cells #[.slice Ao5 t196.length co5,.int .i64 t199,.int .i64 t200] 32 (0,0)) (by (with_reducible repeat (first|refine blk_drewN ?_ _|refine blk_drew ?_|refine blk_alloc ?_ _));exact BK202.out)) (below_size (by repeat (first|(with_reducible first|exact HB.out|apply below_alloc|apply pw_below_drewN|apply below_drew1|refine below_set ?_ GE202.out|refine below_set ?_ GE203.out)|exact HB.out))));have n3_:=Aside0.mk (blk_below (g:=gb202) (o:=.cells #[.slice Ao5 t196.length co5,.int .i64 t199,.int .i64 t200] 32 (0,0)) (by (with_reducible repeat (first|refine blk_drewN ?_ _|refine blk_drew ?_|refine blk_alloc ?_ _));exact BK202.out) hb);have n4_:=Aside0.mk (blk_below (g:=gb203) (o:=.cells #[.int .i64 100,.int .i64 10] 43 (0,0)) (by (with_reducible repeat (first|refine blk_drewN ?_ _|refine blk_drew ?_|refine blk_alloc ?_ _));exact BK203.out) hb);have n5_:=Aside0.mk (below_step (by repeat (first|(with_reducible first|exact HB.out|apply below_alloc|apply pw_below_drewN|apply below_drew1|refine below_set ?_ GE202.out|refine below_set ?_ GE203.out)|exact HB.out)) hb);clear HO_4;clear HO_203000;clear BK202;clear BK203;clear HB;have HO_4:=n0_;have HO_203000:=n1_;have HO210:=n2_;have BK202:=n3_;have BK203:=n4_;have HB:=n5_;clear n0_ n1_ n2_ n3_ n4_ n5_;(try clear hb);(try clear hb2);(try clear hk);(try clear hi);(try clear ho0);obtain ⟨Ao101,co101,eo101⟩:=Kd.S_slice HO210.out;subst eo101)|(go_at_call 26;(with_reducible refine (leadlag_Play.calls k1 100 10 _ _ t196 t199 t200 _ _ x4_1 0 t208 t211 _ ?side1 ?side2 ?side3 ?side4 A18.out).mono ?_);(case side1 => repeat (first|exact (Kd.R_reads' HO_203000.out).2.2|(with_reducible refine Kd.C_alloc ?_ _)|(with_reducible refine Kd.C_drewN ?_ _)|(with_reducible refine Kd.C_drew ?_)));(case side2 => exact (Kd.R_reads' HO_203000.out).2.1);(case side3 => repeat (first|exact (Kd.R_reads' HO_4.out).2.2|(with_reducible refine Kd.C_alloc ?_ _)|(with_reducible refine Kd.C_drewN ?_ _)|(with_reducible refine Kd.C_drew ?_)));(case side4 => exact (Kd.R_reads' HO_4.out).2.1);rintro e w100 ⟨v209,rfl,ho0,hb⟩;have n0_:=Aside0.mk (Kd.R_below (by (with_reducible repeat (first|apply Kd.R_alloc|apply Kd.R_drewN|apply Kd.R_drew));exact HO_4.out) hb);have n1_:=Aside0.mk (Kd.R_below (by (with_reducible repeat (first|apply Kd.R_alloc|apply Kd.R_drewN|apply Kd.R_drew));exact HO_203000.out) hb);have n2_:=Aside0.mk (Kd.S_lower (Kd.S_newB (Kd.S_new' ho0 (Kd.R_lt (by (with_reducible repeat (first|apply Kd.R_alloc|apply Kd.R_drewN|apply Kd.R_drew));exact HO_203000.out))) (g:=gb202) (o:=.cells #[.slice Ao5 t196.length co5,.int .i64 t199,.int .i64 t200] 32 (0,0)) (by (with_reducible repeat (first|refine blk_drewN ?_ _|refine blk_drew ?_|refine blk_alloc ?_ _));exact BK202.out)) (below_size (by repeat (first|(with_reducible first|exact HB.out|apply below_alloc|apply pw_below_drewN|apply below_drew1|refine below_set ?_ GE202.out|refine below_set ?_ GE203.out)|exact HB.out))));have n3_:=Aside0.mk (blk_below (g:=gb202) (o:=.cells #[.slice Ao5 t196.length co5,.int .i64 t199,.int .i64 t200] 32 (0,0)) (by (with_reducible repeat (first|refine blk_drewN ?_ _|refine blk_drew ?_|refine blk_alloc ?_ _));exact BK202.out) hb);have n4_:=Aside0.mk (blk_below (g:=gb203) (o:=.cells #[.int .i64 100,.int .i64 10] 43 (0,0)) (by (with_reducible repeat (first|refine blk_drewN ?_ _|refine blk_drew ?_|refine blk_alloc ?_ _));exact BK203.out) hb);have n5_:=Aside0.mk (below_step (by repeat (first|(with_reducible first|exact HB.out|apply below_alloc|apply pw_below_drewN|apply below_drew1|refine below_set ?_ GE202.out|refine below_set ?_ GE203.out)|exact HB.out)) hb);clear HO_4;clear HO_203000;clear BK202;clear BK203;clear HB;have HO_4:=n0_;have HO_203000:=n1_;have HO210:=n2_;have BK202:=n3_;have BK203:=n4_;have HB:=n5_;clear n0_ n1_ n2_ n3_ n4_ n5_;(try clear hb);(try clear hb2);(try clear hk);(try clear hi);(try clear ho0);obtain ⟨Ao101,co101,eo101⟩:=Kd.S_slice HO210.out;subst eo101))
    go_ret
    exact ⟨by first|rfl|(simp [errW_none,errW_some] <;> rfl)|(simp [*,errW_none,errW_some] <;> rfl),by repeat (first|(with_reducible first|exact HB.out|apply below_alloc|apply pw_below_drewN|apply below_drew1|refine below_set ?_ GE202.out|refine below_set ?_ GE203.out)|exact HB.out)⟩
   rw [if_pos c21] at H
   have c21b0 : ((t208.length : Int) == 101) = true:=beq_iff_eq.mpr c21
   have c21b1 : ((t208.length : Int) != 101) = false:=bne_eq_false_iff_eq.mpr c21
   clear c21
   by_cases c22 : 99 < (t208.length : Int)
   rotate_left
   ·rw [if_neg c22] at H
    exact absurd H (by simp)
   rw [if_pos c22] at H
   have c22b0 : decide (99 < (t208.length : Int)) = true:=decide_eq_true c22
   have c22b1 : decide (99 < t208.length) = true:=decide_eq_true (by omega)
   clear c22
   replace H:=Option.bind_eq_some_iff.mp H
   obtain ⟨t213,A230,H⟩:=H
   replace H : (if 100 < (t208.length : Int) then ((leadlag_Running.f k1 ((rd_T32 t208 100).f0) ((rd_T32 t208 100).f1) ((rd_T32 t208 100).f2)).bind fun t217 => (plenumlaw55_awake.l1 k1 x4_1 t208 t213 t217 0 t196 t199 t200 100 10)) else (none)) = some r:=H
   have A23:=Aside0.mk A230
   clear A230
   by_cases c24 : 100 < (t208.length : Int)
   rotate_left
   ·rw [if_neg c24] at H
    exact absurd H (by simp)
   rw [if_pos c24] at H
   have c24b0 : decide (100 < (t208.length : Int)) = true:=decide_eq_true c24
   have c24b1 : decide (100 < t208.length) = true:=decide_eq_true (by omega)
   clear c24
   replace H:=Option.bind_eq_some_iff.mp H
   obtain ⟨t217,A250,H⟩:=H
   replace H : (plenumlaw55_awake.l1 k1 x4_1 t208 t213 t217 0 t196 t199 t200 100 10) = some r:=H
   have A25:=Aside0.mk A250
   clear A250
   have H':=Aside0.mk H
   clear H
   obtain ⟨Ao26,co26,eo26⟩:=Kd.R_slice HO_4.out
   subst eo26
   have hnb27:=NB203_202.out
   have hnc27:=NB202_203.out
   have hcz28_0 : wr.cell? ⟨gb203,0,none⟩ = some (.int .i64 100):=(blk_cell BK203.out 0).trans rfl
   have hcz28_1 : wr.cell? ⟨gb203,1,none⟩ = some (.int .i64 10):=(blk_cell BK203.out 1).trans rfl
   have hfz28_0:=blk_frozen BK203.out 0
   have hfz28_1:=blk_frozen BK203.out 1
   have hcz29_0 : wr.cell? ⟨gb202,0,none⟩ = some (.slice Ao5 t196.length co5):=(blk_cell BK202.out 0).trans rfl
   have hcz29_1 : wr.cell? ⟨gb202,1,none⟩ = some (.int .i64 t199):=(blk_cell BK202.out 1).trans rfl
   have hcz29_2 : wr.cell? ⟨gb202,2,none⟩ = some (.int .i64 t200):=(blk_cell BK202.out 2).trans rfl
   have hfz29_0:=blk_frozen BK202.out 0
   have hfz29_1:=blk_frozen BK202.out 1
   have hfz29_2:=blk_frozen BK202.out 2
   try go_wp2_with (first|((with_reducible refine gate_callee (f:=26) rfl ?_);refine goesL_ (some 35) rfl rfl Try.func26 (by kernel_rfl) rfl #[.agg #[.int .i64 100,.int .i64 10],.agg #[.slice Ao5 t196.length co5,.int .i64 t199,.int .i64 t200],.slice Ao26 x4_1.length co26,.int .i64 0] rfl (by (try simp only [List.map_toArray,List.map_cons,List.map_nil]);first|done|rfl|(simp only [List.length_drop,List.length_take];rfl)) ?_;(with_reducible refine (leadlag_Play.calls k1 100 10 _ _ t196 t199 t200 _ _ x4_1 0 t208 t211 _ ?side1 ?side2 ?side3 ?side4 A18.out).mono ?_);(case side1 => repeat (first|exact (Kd.R_reads' HO_203000.out).2.2|(with_reducible refine Kd.C_alloc ?_ _)|(with_reducible refine Kd.C_drewN ?_ _)|(with_reducible refine Kd.C_drew ?_)));(case side2 => exact (Kd.R_reads' HO_203000.out).2.1);(case side3 => repeat (first|exact (Kd.R_reads' HO_4.out).2.2|(with_reducible refine Kd.C_alloc ?_ _)|(with_reducible refine Kd.C_drewN ?_ _)|(with_reducible refine Kd.C_drew ?_)));(case side4 => exact (Kd.R_reads' HO_4.out).2.1);rintro e w30 ⟨v209,rfl,ho0,hb⟩;refine ⟨_,rfl,?_⟩;have n0_:=Aside0.mk (Kd.R_below (by (with_reducible repeat (first|apply Kd.R_alloc|apply Kd.R_drewN|apply Kd.R_drew));exact HO_4.out) hb);have n1_:=Aside0.mk (Kd.R_below (by (with_reducible repeat (first|apply Kd.R_alloc|apply Kd.R_drewN|apply Kd.R_drew));exact HO_203000.out) hb);have n2_:=Aside0.mk (Kd.S_lower (Kd.S_newB (Kd.S_new' ho0 (Kd.R_lt (by (with_reducible repeat (first|apply Kd.R_alloc|apply Kd.R_drewN|apply Kd.R_drew));exact HO_203000.out))) (g:=gb202) (o:=.cells #[.slice Ao5 t196.length co5,.int .i64 t199,.int .i64 t200] 32 (0,0)) (by (with_reducible repeat (first|refine blk_drewN ?_ _|refine blk_drew ?_|refine blk_alloc ?_ _));exact BK202.out)) (below_size (by repeat (first|(with_reducible first|exact HB.out|apply below_alloc|apply pw_below_drewN|apply below_drew1|refine below_set ?_ GE202.out|refine below_set ?_ GE203.out)|exact HB.out))));have n3_:=Aside0.mk (blk_below (g:=gb202) (o:=.cells #[.slice Ao5 t196.length co5,.int .i64 t199,.int .i64 t200] 32 (0,0)) (by (with_reducible repeat (first|refine blk_drewN ?_ _|refine blk_drew ?_|refine blk_alloc ?_ _));exact BK202.out) hb);have n4_:=Aside0.mk (blk_below (g:=gb203) (o:=.cells #[.int .i64 100,.int .i64 10] 43 (0,0)) (by (with_reducible repeat (first|refine blk_drewN ?_ _|refine blk_drew ?_|refine blk_alloc ?_ _));exact BK203.out) hb);have n5_:=Aside0.mk (below_step (by repeat (first|(with_reducible first|exact HB.out|apply below_alloc|apply pw_below_drewN|apply below_drew1|refine below_set ?_ GE202.out|refine below_set ?_ GE203.out)|exact HB.out)) hb);clear HO_4;clear HO_203000;clear BK202;clear BK203;clear HB;have HO_4:=n0_;have HO_203000:=n1_;have HO210:=n2_;have BK202:=n3_;have BK203:=n4_;have HB:=n5_;clear n0_ n1_ n2_ n3_ n4_ n5_;(try clear hb);(try clear hb2);(try clear hk);(try clear hi);(try clear ho0);obtain ⟨Ao31,co31,eo31⟩:=Kd.S_slice HO210.out;subst eo31)|(go_at_call 26;(with_reducible refine (leadlag_Play.calls k1 100 10 _ _ t196 t199 t200 _ _ x4_1 0 t208 t211 _ ?side1 ?side2 ?side3 ?side4 A18.out).mono ?_);(case side1 => repeat (first|exact (Kd.R_reads' HO_203000.out).2.2|(with_reducible refine Kd.C_alloc ?_ _)|(with_reducible refine Kd.C_drewN ?_ _)|(with_reducible refine Kd.C_drew ?_)));(case side2 => exact (Kd.R_reads' HO_203000.out).2.1);(case side3 => repeat (first|exact (Kd.R_reads' HO_4.out).2.2|(with_reducible refine Kd.C_alloc ?_ _)|(with_reducible refine Kd.C_drewN ?_ _)|(with_reducible refine Kd.C_drew ?_)));(case side4 => exact (Kd.R_reads' HO_4.out).2.1);rintro e w30 ⟨v209,rfl,ho0,hb⟩;have n0_:=Aside0.mk (Kd.R_below (by (with_reducible repeat (first|apply Kd.R_alloc|apply Kd.R_drewN|apply Kd.R_drew));exact HO_4.out) hb);have n1_:=Aside0.mk (Kd.R_below (by (with_reducible repeat (first|apply Kd.R_alloc|apply Kd.R_drewN|apply Kd.R_drew));exact HO_203000.out) hb);have n2_:=Aside0.mk (Kd.S_lower (Kd.S_newB (Kd.S_new' ho0 (Kd.R_lt (by (with_reducible repeat (first|apply Kd.R_alloc|apply Kd.R_drewN|apply Kd.R_drew));exact HO_203000.out))) (g:=gb202) (o:=.cells #[.slice Ao5 t196.length co5,.int .i64 t199,.int .i64 t200] 32 (0,0)) (by (with_reducible repeat (first|refine blk_drewN ?_ _|refine blk_drew ?_|refine blk_alloc ?_ _));exact BK202.out)) (below_size (by repeat (first|(with_reducible first|exact HB.out|apply below_alloc|apply pw_below_drewN|apply below_drew1|refine below_set ?_ GE202.out|refine below_set ?_ GE203.out)|exact HB.out))));have n3_:=Aside0.mk (blk_below (g:=gb202) (o:=.cells #[.slice Ao5 t196.length co5,.int .i64 t199,.int .i64 t200] 32 (0,0)) (by (with_reducible repeat (first|refine blk_drewN ?_ _|refine blk_drew ?_|refine blk_alloc ?_ _));exact BK202.out) hb);have n4_:=Aside0.mk (blk_below (g:=gb203) (o:=.cells #[.int .i64 100,.int .i64 10] 43 (0,0)) (by (with_reducible repeat (first|refine blk_drewN ?_ _|refine blk_drew ?_|refine blk_alloc ?_ _));exact BK203.out) hb);have n5_:=Aside0.mk (below_step (by repeat (first|(with_reducible first|exact HB.out|apply below_alloc|apply pw_below_drewN|apply below_drew1|refine below_set ?_ GE202.out|refine below_set ?_ GE203.out)|exact HB.out)) hb);clear HO_4;clear HO_203000;clear BK202;clear BK203;clear HB;have HO_4:=n0_;have HO_203000:=n1_;have HO210:=n2_;have BK202:=n3_;have BK203:=n4_;have HB:=n5_;clear n0_ n1_ n2_ n3_ n4_ n5_;(try clear hb);(try clear hb2);(try clear hk);(try clear hi);(try clear ho0);obtain ⟨Ao31,co31,eo31⟩:=Kd.S_slice HO210.out;subst eo31))
   have n0_:=Aside0.mk (Kd.R_drew HO_4.out)
   have n1_:=Aside0.mk (Kd.R_drew HO_203000.out)
   have n2_:=Aside0.mk (Kd.S_drew HO210.out)
   have n3_:=Aside0.mk (blk_drew BK202.out)
   have n4_:=Aside0.mk (blk_drew BK203.out)
   have n5_:=Aside0.mk (below_drew1 HB.out)
   clear HO_4
   clear HO_203000
   clear HO210
   clear BK202
   clear BK203
   clear HB
   have HO_4:=n0_
   have HO_203000:=n1_
   have HO210:=n2_
   have BK202:=n3_
   have BK203:=n4_
   have HB:=n5_
   clear n0_ n1_ n2_ n3_ n4_ n5_
   have p212 : 0 ≤ (99 : Int):=(by omega)
   have q212 : 99 < (t208.length : Int):=of_decide_eq_true (by first|(with_reducible assumption)|assumption)
   obtain ⟨ad212,A212_0,c212_0,e212,hx212_0,hx212_1,hx212_2,hl212_0,hi212_0⟩:=at_T32 (Kd.S_reads' HO210.out).2.2 99 p212 q212
   cases e212
   obtain ⟨ce212,hce212,hMe212,hcc212⟩:=Kd.S_get HO210.out z32 99 p212 (by first|exact q212|exact of_decide_eq_true (by first|(with_reducible assumption)|assumption)|(have e_:=(Kd.S_reads' HO210.out).1;omega))
   obtain ⟨ve212_0,rfl,ge212_0⟩:=k32_openM hMe212
   have hv212_0:=hcc212 0 _ rfl
   rw [Nat.add_zero] at hv212_0
   replace hv212_0:=Option.some.inj (hv212_0.symm.trans hx212_0)
   rw [hv212_0] at ge212_0
   have HL212_0:=Aside0.mk (show Kd.R k62 62 _ _ _ _ ((rd_T32 t208 99).f0) from ge212_0)
   clear hv212_0 ge212_0
   clear hcc212 hce212
   (try simp only [show (99 : Int).toNat = 99 from rfl,Nat.reduceMul,Nat.reduceEqDiff,Go.Addr.add,↓reduceIte] at hx212_0)
   (try simp only [show (99 : Int).toNat = 99 from rfl,Nat.reduceMul,Nat.reduceEqDiff,Go.Addr.add,↓reduceIte] at hx212_1)
   (try simp only [show (99 : Int).toNat = 99 from rfl,Nat.reduceMul,Nat.reduceEqDiff,Go.Addr.add,↓reduceIte] at hx212_2)
   have qi212 : (99 < t208.length) = True:=eq_true (by omega)
   (try rw [show ((99 : Int)).toNat = 99 from rfl] at hx212_0)
   (try rw [show 99 * 3 = 297 from rfl] at hx212_0)
   (try rw [show ((99 : Int)).toNat = 99 from rfl] at hx212_1)
   (try rw [show 99 * 3 = 297 from rfl] at hx212_1)
   (try rw [show ((99 : Int)).toNat = 99 from rfl] at hx212_2)
   (try rw [show 99 * 3 = 297 from rfl] at hx212_2)
   have HR212_0:=Aside0.mk hi212_0
   have HC212_0:=Aside0.mk hl212_0
   clear hi212_0 hl212_0
   replace p212:=eq_true p212
   replace q212:=eq_true q212
   have p216 : 0 ≤ (100 : Int):=(by omega)
   have q216 : 100 < (t208.length : Int):=of_decide_eq_true (by first|(with_reducible assumption)|assumption)
   obtain ⟨ad216,A216_0,c216_0,e216,hx216_0,hx216_1,hx216_2,hl216_0,hi216_0⟩:=at_T32 (Kd.S_reads' HO210.out).2.2 100 p216 q216
   obtain rfl : ad212 = ad216:=(by injection e216)
   obtain ⟨ce216,hce216,hMe216,hcc216⟩:=Kd.S_get HO210.out z32 100 p216 (by first|exact q216|exact of_decide_eq_true (by first|(with_reducible assumption)|assumption)|(have e_:=(Kd.S_reads' HO210.out).1;omega))
   obtain ⟨ve216_0,rfl,ge216_0⟩:=k32_openM hMe216
   have hv216_0:=hcc216 0 _ rfl
   rw [Nat.add_zero] at hv216_0
   replace hv216_0:=Option.some.inj (hv216_0.symm.trans hx216_0)
   rw [hv216_0] at ge216_0
   have HL216_0:=Aside0.mk (show Kd.R k62 62 _ _ _ _ ((rd_T32 t208 100).f0) from ge216_0)
   clear hv216_0 ge216_0
   clear hcc216 hce216
   (try simp only [show (100 : Int).toNat = 100 from rfl,Nat.reduceMul,Nat.reduceEqDiff,Go.Addr.add,↓reduceIte] at hx216_0)
   (try simp only [show (100 : Int).toNat = 100 from rfl,Nat.reduceMul,Nat.reduceEqDiff,Go.Addr.add,↓reduceIte] at hx216_1)
   (try simp only [show (100 : Int).toNat = 100 from rfl,Nat.reduceMul,Nat.reduceEqDiff,Go.Addr.add,↓reduceIte] at hx216_2)
   have qi216 : (100 < t208.length) = True:=eq_true (by omega)
   (try rw [show ((100 : Int)).toNat = 100 from rfl] at hx216_0)
   (try rw [show 100 * 3 = 300 from rfl] at hx216_0)
   (try rw [show ((100 : Int)).toNat = 100 from rfl] at hx216_1)
   (try rw [show 100 * 3 = 300 from rfl] at hx216_1)
   (try rw [show ((100 : Int)).toNat = 100 from rfl] at hx216_2)
   (try rw [show 100 * 3 = 300 from rfl] at hx216_2)
   have HR216_0:=Aside0.mk hi216_0
   have HC216_0:=Aside0.mk hl216_0
   clear hi216_0 hl216_0
   replace p216:=eq_true p216
   replace q216:=eq_true q216
   refine start_ (n:=10) (S:=fun w' => w'.cell? ⟨ad212.block,ad212.off + 297,none⟩ = some (.slice A212_0 ((rd_T32 t208 99).f0).length c212_0)∧w'.cell? ⟨ad212.block,ad212.off + 297 + 1,none⟩ = some (.int .i64 ((rd_T32 t208 99).f1))∧w'.cell? ⟨ad212.block,ad212.off + 297 + 2,none⟩ = some (.int .i64 ((rd_T32 t208 99).f2))∧w'.cell? ⟨ad212.block,ad212.off + 300,none⟩ = some (.slice A216_0 ((rd_T32 t208 100).f0).length c216_0)∧w'.cell? ⟨ad212.block,ad212.off + 300 + 1,none⟩ = some (.int .i64 ((rd_T32 t208 100).f1))∧w'.cell? ⟨ad212.block,ad212.off + 300 + 2,none⟩ = some (.int .i64 ((rd_T32 t208 100).f2))) (ds:=[]) #[false,false,false,false,false,false,false,false,false,false] (by kernel_rfl) rfl rfl ⟨hx212_0,hx212_1,hx212_2,hx216_0,hx216_1,hx216_2⟩ (fun hHeld => ?_);refine with_tabW plenumlaw55_awake.tab11 plenumlaw55_awake.bits11 (fun HT_ HW_ => ?_)
   generalize w30.drew = w32 at HO_4 HO_203000 HO210 BK202 BK203 HB HL212_0 HL216_0 HR212_0 HR216_0 hx212_0 hx212_1 hx212_2 hx216_0 hx216_1 hx216_2 hHeld ⊢
   refine pure_ (i:=0) (N:=some 49) (v:=?_) (a':=?_) #[true,false,false,false,false,false,false,false,false,false] rfl rfl (any_of HT_.out (by kernel_rfl)) (fun _ _ _ h => h) (Or.inl ⟨by rfl,?_⟩) ?_ ?_
   rotate_left;(intro w';go_simp;with_reducible rfl);rotate_left;(simp only [Act.put,List.setIfInBounds_toArray,List.set_cons_zero,List.set_cons_succ,i64_w,i32_w];rfl)
   refine pure_ (i:=1) (N:=some 50) (v:=?_) (a':=?_) #[true,true,false,false,false,false,false,false,false,false] rfl rfl (any_of HT_.out (by kernel_rfl)) (fun _ _ _ h => h) (Or.inl ⟨by rfl,?_⟩) ?_ ?_
   rotate_left;(intro w';go_simp;with_reducible rfl);rotate_left;(simp only [Act.put,List.setIfInBounds_toArray,List.set_cons_zero,List.set_cons_succ,i64_w,i32_w];rfl)
   refine pure_ (i:=4) (N:=some 53) (v:=?_) (a':=?_) #[true,true,false,false,true,false,false,false,false,false] rfl rfl (any_of HT_.out (by kernel_rfl)) (fun _ _ _ h => h) (Or.inl ⟨by rfl,?_⟩) ?_ ?_
   rotate_left;(intro w';go_simp;with_reducible rfl);rotate_left;(simp only [Act.put,List.setIfInBounds_toArray,List.set_cons_zero,List.set_cons_succ,i64_w,i32_w];rfl)
   refine pure_ (i:=5) (N:=some 54) (v:=?_) (a':=?_) #[true,true,false,false,true,true,false,false,false,false] rfl rfl (any_of HT_.out (by kernel_rfl)) (fun _ _ _ h => h) (Or.inl ⟨by rfl,?_⟩) ?_ ?_
   rotate_left;(intro w';go_simp;with_reducible rfl);rotate_left;(simp only [Act.put,List.setIfInBounds_toArray,List.set_cons_zero,List.set_cons_succ,i64_w,i32_w];rfl)
   refine take_ (i:=2) (N:=some 51) (v:=?_) (a':=?_) #[true,true,true,false,true,true,false,false,false,false] rfl rfl (take_ofW HT_.out HW_.out (by kernel_rfl)) (fun _ _ _ h => h) (Or.inl ⟨by rfl,?_⟩) hHeld ?_ ?_
   rotate_left;(rintro w' ⟨s0,s1,s2,s3,s4,s5⟩;go_simp;with_reducible rfl);rotate_left;(simp only [Act.put,List.setIfInBounds_toArray,List.set_cons_zero,List.set_cons_succ,i64_w,i32_w];rfl)
   refine take_ (i:=6) (N:=some 55) (v:=?_) (a':=?_) #[true,true,true,false,true,true,true,false,false,false] rfl rfl (take_ofW HT_.out HW_.out (by kernel_rfl)) (fun _ _ _ h => h) (Or.inl ⟨by rfl,?_⟩) hHeld ?_ ?_
   rotate_left;(rintro w' ⟨s0,s1,s2,s3,s4,s5⟩;go_simp;with_reducible rfl);rotate_left;(simp only [Act.put,List.setIfInBounds_toArray,List.set_cons_zero,List.set_cons_succ,i64_w,i32_w];rfl)
   refine one_ (i:=3) (N:=some 52) #[true,true,true,true,true,true,true,false,false,false] rfl rfl (one_of HT_.out (by kernel_rfl)) (by decide) (fun K hK => ?_)
   refine goes_ Try.func22 (by kernel_rfl) rfl #[.agg #[.slice A212_0 ((rd_T32 t208 99).f0).length c212_0,.int .i64 ((rd_T32 t208 99).f1),.int .i64 ((rd_T32 t208 99).f2)]] (by rfl) rfl rfl (by (try simp only [List.map_toArray,List.map_cons,List.map_nil]);first|done|rfl|(simp only [List.length_drop,List.length_take];rfl)) ?_
   with_reducible refine (leadlag_Running.calls k1 _ _ ((rd_T32 t208 99).f0) ((rd_T32 t208 99).f1) ((rd_T32 t208 99).f2) t213 _ ?side1 ?side2 A23.out).mono ?_
   (case side1 => repeat (first|exact (by repeat (first|(with_reducible exact HR212_0.out)|(with_reducible refine Kd.C_alloc ?_ _)|(with_reducible refine Kd.C_drewN ?_ _)|(with_reducible refine Kd.C_drew ?_)|exact HR212_0.out))|(with_reducible refine Kd.C_alloc ?_ _)|(with_reducible refine Kd.C_drewN ?_ _)|(with_reducible refine Kd.C_drew ?_)))
   (case side2 => exact HC212_0.out)
   rintro e w33 ⟨v214,rfl,ho0,hb⟩
   have HS0_:=(hb.cell (World.block_lt_of_cell? _ _ (hHeld.1))).trans (hHeld.1)
   have HS1_:=(hb.cell (World.block_lt_of_cell? _ _ (hHeld.2.1))).trans (hHeld.2.1)
   have HS2_:=(hb.cell (World.block_lt_of_cell? _ _ (hHeld.2.2.1))).trans (hHeld.2.2.1)
   have HS3_:=(hb.cell (World.block_lt_of_cell? _ _ (hHeld.2.2.2.1))).trans (hHeld.2.2.2.1)
   have HS4_:=(hb.cell (World.block_lt_of_cell? _ _ (hHeld.2.2.2.2.1))).trans (hHeld.2.2.2.2.1)
   have HS5_:=(hb.cell (World.block_lt_of_cell? _ _ (hHeld.2.2.2.2.2))).trans (hHeld.2.2.2.2.2)
   refine ⟨_,rfl,?_⟩
   have n0_:=Aside0.mk (Kd.R_elder' (by (with_reducible repeat (first|apply Kd.R_alloc|apply Kd.R_drewN|apply Kd.R_drew));exact HO_4.out) (Kd.R_base ho0) hb)
   have n1_:=Aside0.mk (Kd.R_below (by (with_reducible repeat (first|apply Kd.R_alloc|apply Kd.R_drewN|apply Kd.R_drew));exact HO_203000.out) hb)
   have n2_:=Aside0.mk (Kd.S_below (by (with_reducible repeat (first|apply Kd.S_alloc|apply Kd.S_drewN|apply Kd.S_drew));exact HO210.out) hb)
   have n3_:=Aside0.mk (Kd.R_below (by (with_reducible repeat (first|apply Kd.R_alloc|apply Kd.R_drewN|apply Kd.R_drew));exact HL212_0.out) hb)
   have n4_:=Aside0.mk (Kd.R_below (by (with_reducible repeat (first|apply Kd.R_alloc|apply Kd.R_drewN|apply Kd.R_drew));exact HL216_0.out) hb)
   have n5_:=Aside0.mk (Kd.R_lower (Kd.R_new' ho0 (Kd.R_lt (by (with_reducible repeat (first|apply Kd.R_alloc|apply Kd.R_drewN|apply Kd.R_drew));exact HO_4.out))) (below_size (by repeat (first|(with_reducible first|exact HB.out|apply below_alloc|apply pw_below_drewN|apply below_drew1|refine below_set ?_ GE202.out|refine below_set ?_ GE203.out)|exact HB.out))))
   have n6_:=Aside0.mk (blk_below (g:=gb202) (o:=.cells #[.slice Ao5 t196.length co5,.int .i64 t199,.int .i64 t200] 32 (0,0)) (by (with_reducible repeat (first|refine blk_drewN ?_ _|refine blk_drew ?_|refine blk_alloc ?_ _));exact BK202.out) hb)
   have n7_:=Aside0.mk (blk_below (g:=gb203) (o:=.cells #[.int .i64 100,.int .i64 10] 43 (0,0)) (by (with_reducible repeat (first|refine blk_drewN ?_ _|refine blk_drew ?_|refine blk_alloc ?_ _));exact BK203.out) hb)
   have n8_:=Aside0.mk (Kd.C_below (by repeat (first|(with_reducible exact HR212_0.out)|(with_reducible refine Kd.C_alloc ?_ _)|(with_reducible refine Kd.C_drewN ?_ _)|(with_reducible refine Kd.C_drew ?_)|exact HR212_0.out)) hb)
   have n9_:=Aside0.mk (Kd.C_below (by repeat (first|(with_reducible exact HR216_0.out)|(with_reducible refine Kd.C_alloc ?_ _)|(with_reducible refine Kd.C_drewN ?_ _)|(with_reducible refine Kd.C_drew ?_)|exact HR216_0.out)) hb)
   have n10_:=Aside0.mk (below_step (by repeat (first|(with_reducible first|exact HB.out|apply below_alloc|apply pw_below_drewN|apply below_drew1|refine below_set ?_ GE202.out|refine below_set ?_ GE203.out)|exact HB.out)) hb)
   clear HO_4
   clear HO_203000
   clear HO210
   clear HL212_0
   clear HL216_0
   clear BK202
   clear BK203
   clear HR212_0
   clear HR216_0
   clear HB
   have HO_4:=n0_
   have HO_203000:=n1_
   have HO210:=n2_
   have HL212_0:=n3_
   have HL216_0:=n4_
   have HO215:=n5_
   have BK202:=n6_
   have BK203:=n7_
   have HR212_0:=n8_
   have HR216_0:=n9_
   have HB:=n10_
   clear n0_ n1_ n2_ n3_ n4_ n5_ n6_ n7_ n8_ n9_ n10_
   (try clear hb)
   (try clear hb2)
   (try clear hk)
   (try clear hi)
   (try clear ho0)
   refine hK.out _ _ ⟨HS0_,HS1_,HS2_,HS3_,HS4_,HS5_⟩ (fun hHeld => ?_)
   clear hK K
   refine norm_ (a':=?_) ?_ ?_
   rotate_left
   ·show Act.put _ (some 52) _ = _
    simp only [Act.put,List.setIfInBounds_toArray,List.set_cons_zero,List.set_cons_succ,i64_w,i32_w]
    rfl
   refine one_ (i:=7) (N:=some 56) #[true,true,true,true,true,true,true,true,false,false] rfl rfl (one_of HT_.out (by kernel_rfl)) (by decide) (fun K hK => ?_)
   refine goes_ Try.func22 (by kernel_rfl) rfl #[.agg #[.slice A216_0 ((rd_T32 t208 100).f0).length c216_0,.int .i64 ((rd_T32 t208 100).f1),.int .i64 ((rd_T32 t208 100).f2)]] (by rfl) rfl rfl (by (try simp only [List.map_toArray,List.map_cons,List.map_nil]);first|done|rfl|(simp only [List.length_drop,List.length_take];rfl)) ?_
   with_reducible refine (leadlag_Running.calls k1 _ _ ((rd_T32 t208 100).f0) ((rd_T32 t208 100).f1) ((rd_T32 t208 100).f2) t217 _ ?side1 ?side2 A25.out).mono ?_
   (case side1 => repeat (first|exact (by repeat (first|(with_reducible exact HR216_0.out)|(with_reducible refine Kd.C_alloc ?_ _)|(with_reducible refine Kd.C_drewN ?_ _)|(with_reducible refine Kd.C_drew ?_)|exact HR216_0.out))|(with_reducible refine Kd.C_alloc ?_ _)|(with_reducible refine Kd.C_drewN ?_ _)|(with_reducible refine Kd.C_drew ?_)))
   (case side2 => exact HC216_0.out)
   rintro e w34 ⟨v218,rfl,ho0,hb⟩
   have HS0_:=(hb.cell (World.block_lt_of_cell? _ _ (hHeld.1))).trans (hHeld.1)
   have HS1_:=(hb.cell (World.block_lt_of_cell? _ _ (hHeld.2.1))).trans (hHeld.2.1)
   have HS2_:=(hb.cell (World.block_lt_of_cell? _ _ (hHeld.2.2.1))).trans (hHeld.2.2.1)
   have HS3_:=(hb.cell (World.block_lt_of_cell? _ _ (hHeld.2.2.2.1))).trans (hHeld.2.2.2.1)
   have HS4_:=(hb.cell (World.block_lt_of_cell? _ _ (hHeld.2.2.2.2.1))).trans (hHeld.2.2.2.2.1)
   have HS5_:=(hb.cell (World.block_lt_of_cell? _ _ (hHeld.2.2.2.2.2))).trans (hHeld.2.2.2.2.2)
   refine ⟨_,rfl,?_⟩
   have n0_:=Aside0.mk (Kd.R_elder' (by (with_reducible repeat (first|apply Kd.R_alloc|apply Kd.R_drewN|apply Kd.R_drew));exact HO_4.out) (Kd.R_base ho0) hb)
   have n1_:=Aside0.mk (Kd.R_below (by (with_reducible repeat (first|apply Kd.R_alloc|apply Kd.R_drewN|apply Kd.R_drew));exact HO_203000.out) hb)
   have n2_:=Aside0.mk (Kd.S_below (by (with_reducible repeat (first|apply Kd.S_alloc|apply Kd.S_drewN|apply Kd.S_drew));exact HO210.out) hb)
   have n3_:=Aside0.mk (Kd.R_below (by (with_reducible repeat (first|apply Kd.R_alloc|apply Kd.R_drewN|apply Kd.R_drew));exact HL212_0.out) hb)
   have n4_:=Aside0.mk (Kd.R_below (by (with_reducible repeat (first|apply Kd.R_alloc|apply Kd.R_drewN|apply Kd.R_drew));exact HL216_0.out) hb)
   have n5_:=Aside0.mk (Kd.R_elder' (by (with_reducible repeat (first|apply Kd.R_alloc|apply Kd.R_drewN|apply Kd.R_drew));exact HO215.out) (Kd.R_base ho0) hb)
   have n6_:=Aside0.mk (Kd.R_lower (Kd.R_new' (Kd.R_new' ho0 (Kd.R_lt (by (with_reducible repeat (first|apply Kd.R_alloc|apply Kd.R_drewN|apply Kd.R_drew));exact HO_4.out))) (Kd.R_lt (by (with_reducible repeat (first|apply Kd.R_alloc|apply Kd.R_drewN|apply Kd.R_drew));exact HO215.out))) (below_size (by repeat (first|(with_reducible first|exact HB.out|apply below_alloc|apply pw_below_drewN|apply below_drew1|refine below_set ?_ GE202.out|refine below_set ?_ GE203.out)|exact HB.out))))
   have n7_:=Aside0.mk (blk_below (g:=gb202) (o:=.cells #[.slice Ao5 t196.length co5,.int .i64 t199,.int .i64 t200] 32 (0,0)) (by (with_reducible repeat (first|refine blk_drewN ?_ _|refine blk_drew ?_|refine blk_alloc ?_ _));exact BK202.out) hb)
   have n8_:=Aside0.mk (blk_below (g:=gb203) (o:=.cells #[.int .i64 100,.int .i64 10] 43 (0,0)) (by (with_reducible repeat (first|refine blk_drewN ?_ _|refine blk_drew ?_|refine blk_alloc ?_ _));exact BK203.out) hb)
   have n9_:=Aside0.mk (Kd.C_below (by repeat (first|(with_reducible exact HR212_0.out)|(with_reducible refine Kd.C_alloc ?_ _)|(with_reducible refine Kd.C_drewN ?_ _)|(with_reducible refine Kd.C_drew ?_)|exact HR212_0.out)) hb)
   have n10_:=Aside0.mk (Kd.C_below (by repeat (first|(with_reducible exact HR216_0.out)|(with_reducible refine Kd.C_alloc ?_ _)|(with_reducible refine Kd.C_drewN ?_ _)|(with_reducible refine Kd.C_drew ?_)|exact HR216_0.out)) hb)
   have n11_:=Aside0.mk (below_step (by repeat (first|(with_reducible first|exact HB.out|apply below_alloc|apply pw_below_drewN|apply below_drew1|refine below_set ?_ GE202.out|refine below_set ?_ GE203.out)|exact HB.out)) hb)
   clear HO_4
   clear HO_203000
   clear HO210
   clear HL212_0
   clear HL216_0
   clear HO215
   clear BK202
   clear BK203
   clear HR212_0
   clear HR216_0
   clear HB
   have HO_4:=n0_
   have HO_203000:=n1_
   have HO210:=n2_
   have HL212_0:=n3_
   have HL216_0:=n4_
   have HO215:=n5_
   have HO219:=n6_
   have BK202:=n7_
   have BK203:=n8_
   have HR212_0:=n9_
   have HR216_0:=n10_
   have HB:=n11_
   clear n0_ n1_ n2_ n3_ n4_ n5_ n6_ n7_ n8_ n9_ n10_ n11_
   (try clear hb)
   (try clear hb2)
   (try clear hk)
   (try clear hi)
   (try clear ho0)
   refine hK.out _ _ ⟨HS0_,HS1_,HS2_,HS3_,HS4_,HS5_⟩ (fun hHeld => ?_)
   clear hK K
   refine norm_ (a':=?_) ?_ ?_
   rotate_left
   ·show Act.put _ (some 56) _ = _
    simp only [Act.put,List.setIfInBounds_toArray,List.set_cons_zero,List.set_cons_succ,i64_w,i32_w]
    rfl
   refine pure_ (i:=8) (N:=some 8) (v:=?_) (a':=?_) #[true,true,true,true,true,true,true,true,true,false] rfl rfl (any_of HT_.out (by kernel_rfl)) (fun _ _ _ h => h) (Or.inl ⟨by rfl,?_⟩) ?_ ?_
   rotate_left;(intro w';go_simp;with_reducible rfl);rotate_left;(simp only [Act.put,List.setIfInBounds_toArray,List.set_cons_zero,List.set_cons_succ,i64_w,i32_w];rfl)
   refine pure_ (i:=9) (N:=some 9) (v:=?_) (a':=?_) #[true,true,true,true,true,true,true,true,true,true] rfl rfl (any_of HT_.out (by kernel_rfl)) (fun _ _ _ h => h) (Or.inl ⟨by rfl,?_⟩) ?_ ?_
   rotate_left;(intro w';go_simp;with_reducible rfl);rotate_left;(simp only [Act.put,List.setIfInBounds_toArray,List.set_cons_zero,List.set_cons_succ,i64_w,i32_w];rfl)
   refine done_ (done_of HT_.out (by kernel_rfl)) ?_
   try go_wp2
   go_loopg [10] k1 (fun kq v10 w' => ∃ (x4_2 : List Int) (x10_2 : Int),v10 = .int .i64 x10_2∧Aside0 (plenumlaw55_awake.l1 kq x4_2 t208 t213 t217 x10_2 t196 t199 t200 100 10 = some r)∧Aside0 (kq ≤ k1)∧Aside0 (Kd.R (Kd.int .i64) 3 w' w.heap.size (fun k_ => some k_ ≠ (v214 : Value).ownBlock∧some k_ ≠ (v218 : Value).ownBlock) (.slice Ao26 x4_1.length co26) x4_2)∧Aside0 (Kd.S k32 32 w' w.heap.size (fun k_ => some k_ ≠ ((.slice Ao5 t196.length co5) : Value).ownBlock∧k_ ≠ gb202) (.slice (some ad212) t208.length co31) t208)∧Aside0 (Kd.R (Kd.int .i64) 3 w' w.heap.size (fun k_ => some k_ ≠ ((.slice Ao26 x4_1.length co26) : Value).ownBlock∧some k_ ≠ (v218 : Value).ownBlock) v214 t213)∧Aside0 (Kd.R (Kd.int .i64) 3 w' w.heap.size (fun k_ => some k_ ≠ ((.slice Ao26 x4_1.length co26) : Value).ownBlock∧some k_ ≠ (v214 : Value).ownBlock) v218 t217)∧Aside0 (Kd.R k62 62 w' w.heap.size (fun _ => True) (.slice Ao5 t196.length co5) t196)∧Aside0 (w'.heap[gb202]? = some (.cells #[(.slice Ao5 t196.length co5),.int .i64 t199,.int .i64 t200] 32 (0,0)))∧Aside0 (w'.heap[gb203]? = some (.cells #[.int .i64 100,.int .i64 10] 43 (0,0)))∧Aside0 (Below w.heap.size w w'))
   case atStart => exact ⟨(x4_1),(0),(by first|rfl|(simp;done)|(simp [*];done)),H',⟨Nat.le_refl _⟩,⟨by (with_reducible repeat (first|apply Kd.R_alloc|apply Kd.R_drewN|apply Kd.R_drew));exact Kd.R_mono HO_4.out (fun _ hk => ⟨hk.1.2,hk.2⟩)⟩,⟨by (with_reducible repeat (first|apply Kd.S_alloc|apply Kd.S_drewN|apply Kd.S_drew));exact Kd.S_mono HO210.out (fun _ hk => ⟨hk.1.2,hk.2⟩)⟩,⟨by (with_reducible repeat (first|apply Kd.R_alloc|apply Kd.R_drewN|apply Kd.R_drew));exact Kd.R_mono HO215.out (fun _ hk => ⟨hk.1.2,hk.2⟩)⟩,⟨by (with_reducible repeat (first|apply Kd.R_alloc|apply Kd.R_drewN|apply Kd.R_drew));exact Kd.R_mono HO219.out (fun _ hk => ⟨hk.1.2,hk.2⟩)⟩,⟨by (with_reducible repeat (first|apply Kd.R_alloc|apply Kd.R_drewN|apply Kd.R_drew));exact HO_203000.out⟩,⟨by (with_reducible repeat (first|refine blk_drewN ?_ _|refine blk_drew ?_|refine blk_alloc ?_ _));exact BK202.out⟩,⟨by (with_reducible repeat (first|refine blk_drewN ?_ _|refine blk_drew ?_|refine blk_alloc ?_ _));exact BK203.out⟩,⟨by repeat (first|(with_reducible first|exact HB.out|apply below_alloc|apply pw_below_drewN|apply below_drew1|refine below_set ?_ GE202.out|refine below_set ?_ GE203.out)|exact HB.out)⟩⟩
   case round =>
    clear H'
    (try clear c1);(try clear p1);(try clear q1);(try clear hx1);(try clear hf1);(try clear c2);(try clear c2b0);(try clear c2b1);(try clear p2);(try clear q2);(try clear hx2);(try clear qi2);(try clear p6);(try clear c8);(try clear c10);(try clear c12);(try clear c12b0);(try clear c13);(try clear c13b0);(try clear p14);(try clear q14);(try clear hx14);(try clear hf14);(try clear c19);(try clear c19b0);(try clear c19b1);(try clear c20);(try clear c20b0);(try clear c20b1);(try clear c21);(try clear c21b0);(try clear c21b1);(try clear p21);(try clear q21);(try clear hx21);(try clear qi21);(try clear c22);(try clear c22b0);(try clear c22b1);(try clear c24);(try clear c24b0);(try clear c24b1);(try clear c26);(try clear c27);(try clear hcz28_0);(try clear hcz28_1);(try clear hcz29_0);(try clear hcz29_1);(try clear hcz29_2);(try clear hcz6_0);(try clear hcz6_1);(try clear hcz6_2);(try clear hcz9_0);(try clear hcz9_1);(try clear hfz28_0);(try clear hfz28_1);(try clear hfz29_0);(try clear hfz29_1);(try clear hfz29_2);(try clear hfz6_0);(try clear hfz6_1);(try clear hfz6_2);(try clear hfz9_0);(try clear hfz9_1);(try clear hx14_0);(try clear hx212_0);(try clear hx212_1);(try clear hx212_2);(try clear hx216_0);(try clear hx216_1);(try clear hx216_2);(try clear p14);(try clear p2);(try clear p212);(try clear p216);(try clear q14);(try clear q212);(try clear q216)
    obtain ⟨x4_2,x10_2,rfl,HA,HK2,HO_4,HO_6,HO_8,HO_9,HO_203000,BK202,BK203,HB⟩:=hrel
    have hl4_2:=(Kd.R_reads' HO_4.out).1
    rw [hl4_2] at HO_4
    (try simp only [hl4_2])
    (try simp only [hl4_2] at BK202)
    (try simp only [hl4_2] at BK203)
    (try simp only [hl4_2] at HO_6)
    (try simp only [hl4_2] at HO_8)
    (try simp only [hl4_2] at HO_9)
    (try simp only [hl4_2] at HO_203000)
    cases gk with
    | zero => exact absurd HA.out (by simp [plenumlaw55_awake.l1])
    | succ k2 =>
     have H:=HA.out
     clear HA
     simp only [plenumlaw55_awake.l1] at H
     by_cases c35 : x10_2 < 50
     ·rw [if_pos c35] at H
      have c35b0 : decide (x10_2 < 50) = true:=decide_eq_true c35
      clear c35
      by_cases c36 : 0 ≤ x10_2
      rotate_left
      ·rw [if_neg c36] at H
       exact absurd H (by simp)
      rw [if_pos c36] at H
      have c36b0 : decide (0 ≤ x10_2) = true:=decide_eq_true c36
      clear c36
      by_cases c37 : x10_2 < (x4_2.length : Int)
      rotate_left
      ·rw [if_neg c37] at H
       exact absurd H (by simp)
      rw [if_pos c37] at H
      have c37b0 : decide (x10_2 < (x4_2.length : Int)) = true:=decide_eq_true c37
      clear c37
      obtain ⟨y220,hy220⟩ : ∃ y_ : List Int,y_ = (x4_2.set (x10_2 : Int).toNat 2):=⟨_,rfl⟩
      replace H : (plenumlaw55_awake.l1 k2 y220 t208 t213 t217 (wrap64 (x10_2 + 1)) t196 t199 t200 100 10) = some r:=by first|(rw [hy220];with_reducible exact H)|(have H2_:=(Option.bind_some _ _).symm.trans H;rw [hy220];with_reducible exact H2_)|(have H2_:=(Option.bind_some _ _).symm.trans H;with_reducible exact H2_)|with_reducible exact H|(rw [hy220];exact H)|exact H
      have Ny220:=Aside0.mk hy220
      clear hy220
      have H':=Aside0.mk H
      clear H
      have p38 : 0 ≤ (x10_2 : Int):=of_decide_eq_true (by first|(with_reducible assumption)|assumption)
      have q38 : (x10_2 : Int) < ((x4_2.length : Int) : Int):=of_decide_eq_true (by first|(with_reducible assumption)|assumption)
      obtain ⟨go38,co38,eo38,gb38,gl38,cl38,HG38⟩:=Kd.R_form HO_4.out (by omega)
      (first|cases eo38|(injection eo38 with ea_ en_ ec_;(first|subst ea_|(injection ea_ with ea_;subst ea_));subst ec_;clear en_))
      have GB38:=Aside0.mk gb38
      have GG38:=Aside0.mk HG38
      clear gb38 gl38 HG38
      obtain ⟨hx38_0,hf38_0⟩:=Kd.R_celln 0 HO_4.out (x10_2 : Int) p38 q38
      replace p38:=eq_true p38
      replace q38:=eq_true q38
      have HP39:=Kd.R_putg HO_4.out (x10_2 : Int) 2
      go_wp2_with (first|((with_reducible refine gate_store (t:=3) (p:=63) rfl ?_);refine store_event (t:=3) (p:=63) (v:=?vo_w40) (w1:=(wr.setCell ⟨go38,(x10_2 : Int).toNat,none⟩ (.int .i64 2))) ?hg ?ho ?hn ?hr ?_;(case ho => rfl);(case hg => rfl);(case hn => rfl);(case hr => first|(go_simp;done)|(go_simp;rfl));intro w40 hw;have hg : wr.grownBy w40 (some go38):=(by rw [hw];exact HP39.2);have hp_ : Kd.R (Kd.int .i64) 3 w40 w.heap.size (fun k_ => some k_ ≠ (v214 : Value).ownBlock∧some k_ ≠ (v218 : Value).ownBlock) (.slice (some ⟨go38,0,none⟩) x4_2.length co26) y220:=(by rw [hw,Ny220.out];exact HP39.1);clear HP39;have n0_:=Aside0.mk (hp_);have n1_:=Aside0.mk (Kd.S_over' (v:=(.slice (some ⟨go38,0,none⟩) x4_2.length co26)) (by (with_reducible repeat (first|apply Kd.S_alloc|apply Kd.S_drewN|apply Kd.S_drew));exact HO_6.out) (Kd.R_typed HO_4.out) (by decide) hg);have n2_:=Aside0.mk (Kd.R_after (v:=(.slice (some ⟨go38,0,none⟩) x4_2.length co26)) (v1:=(.slice (some ⟨go38,0,none⟩) x4_2.length co26)) (ok:=(fun k_ => some k_ ≠ (v218 : Value).ownBlock)) (by (with_reducible repeat (first|apply Kd.R_alloc|apply Kd.R_drewN|apply Kd.R_drew));exact Kd.R_mono HO_8.out (fun _ hk => ⟨hk.2,hk.1⟩)) hg (.inl rfl));have n3_:=Aside0.mk (Kd.R_after (v:=(.slice (some ⟨go38,0,none⟩) x4_2.length co26)) (v1:=(.slice (some ⟨go38,0,none⟩) x4_2.length co26)) (ok:=(fun k_ => some k_ ≠ (v214 : Value).ownBlock)) (by (with_reducible repeat (first|apply Kd.R_alloc|apply Kd.R_drewN|apply Kd.R_drew));exact Kd.R_mono HO_9.out (fun _ hk => ⟨hk.2,hk.1⟩)) hg (.inl rfl));have n4_:=Aside0.mk (Kd.R_over' (v:=(.slice (some ⟨go38,0,none⟩) x4_2.length co26)) (by (with_reducible repeat (first|apply Kd.R_alloc|apply Kd.R_drewN|apply Kd.R_drew));exact HO_203000.out) (Kd.R_typed HO_4.out) (by decide) hg);have n5_:=Aside0.mk (blk_grown (g:=gb202) (o:=.cells #[.slice Ao5 t196.length co5,.int .i64 t199,.int .i64 t200] 32 (0,0)) (by (with_reducible repeat (first|refine blk_drewN ?_ _|refine blk_drew ?_|refine blk_alloc ?_ _));exact BK202.out) hg (Kd.R_ne HO_4.out BK202.out (by decide)));have n6_:=Aside0.mk (blk_grown (g:=gb203) (o:=.cells #[.int .i64 100,.int .i64 10] 43 (0,0)) (by (with_reducible repeat (first|refine blk_drewN ?_ _|refine blk_drew ?_|refine blk_alloc ?_ _));exact BK203.out) hg (Kd.R_ne HO_4.out BK203.out (by decide)));have n7_:=Aside0.mk ((by rw [hw];exact below_set (HB.out) GB38.out : Below w.heap.size w w40));clear HO_4;clear HO_6;clear HO_8;clear HO_9;clear HO_203000;clear BK202;clear BK203;clear HB;have HO_4:=n0_;have HO_6:=n1_;have HO_8:=n2_;have HO_9:=n3_;have HO_203000:=n4_;have BK202:=n5_;have BK203:=n6_;have HB:=n7_;clear n0_ n1_ n2_ n3_ n4_ n5_ n6_ n7_;clear hg hw hp_))
      (try simp only [← hl4_2])
      go_roundg k2
      case measure => have:=HK1.out;have:=HK2.out;omega
      case rel => exact ⟨(y220),(wrap64 (x10_2 + 1)),(by first|rfl|(simp;done)|(simp [*];done)),H',⟨by have:=HK1.out;have:=HK2.out;omega⟩,⟨by (try simp only [hl4_2]);(with_reducible repeat (first|apply Kd.R_alloc|apply Kd.R_drewN|apply Kd.R_drew));exact HO_4.out⟩,⟨by (try simp only [hl4_2]);(with_reducible repeat (first|apply Kd.S_alloc|apply Kd.S_drewN|apply Kd.S_drew));exact HO_6.out⟩,⟨by (try simp only [hl4_2]);(with_reducible repeat (first|apply Kd.R_alloc|apply Kd.R_drewN|apply Kd.R_drew));exact Kd.R_mono HO_8.out (fun _ hk => ⟨hk.2,hk.1⟩)⟩,⟨by (try simp only [hl4_2]);(with_reducible repeat (first|apply Kd.R_alloc|apply Kd.R_drewN|apply Kd.R_drew));exact Kd.R_mono HO_9.out (fun _ hk => ⟨hk.2,hk.1⟩)⟩,⟨by (try simp only [hl4_2]);(with_reducible repeat (first|apply Kd.R_alloc|apply Kd.R_drewN|apply Kd.R_drew));exact HO_203000.out⟩,⟨by (try simp only [hl4_2]);(with_reducible repeat (first|refine blk_drewN ?_ _|refine blk_drew ?_|refine blk_alloc ?_ _));exact BK202.out⟩,⟨by (try simp only [hl4_2]);(with_reducible repeat (first|refine blk_drewN ?_ _|refine blk_drew ?_|refine blk_alloc ?_ _));exact BK203.out⟩,⟨by repeat (first|(with_reducible first|exact HB.out|apply below_alloc|apply pw_below_drewN|apply below_drew1|refine below_set ?_ GE202.out|refine below_set ?_ GE203.out)|exact HB.out)⟩⟩
     rw [if_neg c35] at H
     have c35b0 : decide (x10_2 < 50) = false:=decide_eq_false c35
     clear c35
     by_cases c41 : 51 ≤ (x4_2.length : Int)
     rotate_left
     ·rw [if_neg c41] at H
      exact absurd H (by simp)
     rw [if_pos c41] at H
     have c41b0:=eq_true c41
     have c41b1 : decide (51 ≤ (x4_2.length : Int)) = true:=decide_eq_true c41
     clear c41
     obtain ⟨y221,hy221⟩ : ∃ y_ : List Int,y_ = (x4_2.take 51):=⟨_,rfl⟩
     replace H : ((leadlag_Play.f k2 100 10 t196 t199 t200 y221 0).bind fun bt225 => (if bt225.2 = 0 then (if (bt225.1.length : Int) = 51 then (if (t213.length : Int) = 1 then (if (t217.length : Int) = 1 then (if 50 < (bt225.1.length : Int) then ((leadlag_Running.f k2 ((rd_T32 bt225.1 50).f0) ((rd_T32 bt225.1 50).f1) ((rd_T32 bt225.1 50).f2)).bind fun t230 => ((leadlag_Spread.f k2 ((rd_T32 bt225.1 50).f0) ((rd_T32 bt225.1 50).f1) ((rd_T32 bt225.1 50).f2)).bind fun bt234 => (if 0 < (t213.length : Int) then (if (rd t213 0) = 0 then (if 0 < (t217.length : Int) then (if (rd t217 0) = 1 then (if 100 < (t208.length : Int) then (if 0 < (((rd_T32 t208 100).f0).length : Int) then (if ((rd_T62 ((rd_T32 t208 100).f0) 0).f0) = 100 then (if (t230.length : Int) = 1 then (if 0 < (t230.length : Int) then (if (rd t230 0) = 1 then (if bt234.2 = 0 then (if bt234.1 = 10 then (if 5 < (bt225.1.length : Int) then ((leadlag_Short.f k2 ((rd_T32 bt225.1 5).f0) ((rd_T32 bt225.1 5).f1) ((rd_T32 bt225.1 5).f2) 2).bind fun t242 => (if t242 = 1 then (if 10 < (bt225.1.length : Int) then ((leadlag_Running.f k2 ((rd_T32 bt225.1 10).f0) ((rd_T32 bt225.1 10).f1) ((rd_T32 bt225.1 10).f2)).bind fun t244 => (if (t244.length : Int) = 2 then ((leadlag_Order.f k2 ((rd_T32 bt225.1 50).f0) ((rd_T32 bt225.1 50).f1) ((rd_T32 bt225.1 50).f2)).bind fun t248 => (if 0 < (t248.length : Int) then (if (rd t248 0) = 1 then ((leadlag_Check.f k2 100 10 t196 t199 t200).bind fun t252 => (some (t252 == 0))) else (none)) else (none))) else (none))) else (none)) else (none))) else (none)) else (none)) else (none)) else (none)) else (none)) else (none)) else (none)) else (none)) else (none)) else (none)) else (none)) else (none)) else (none)))) else (none)) else (some false)) else (none)) else (none)) else (none))) = some r:=by first|(rw [hy221];with_reducible exact H)|(have H2_:=(Option.bind_some _ _).symm.trans H;rw [hy221];with_reducible exact H2_)|(have H2_:=(Option.bind_some _ _).symm.trans H;with_reducible exact H2_)|with_reducible exact H|(rw [hy221];exact H)|exact H
     have Ny221:=Aside0.mk hy221
     clear hy221
     replace H:=Option.bind_eq_some_iff.mp H
     obtain ⟨⟨t225,t228⟩,A420,H⟩:=H
     replace H : (if t228 = 0 then (if (t225.length : Int) = 51 then (if (t213.length : Int) = 1 then (if (t217.length : Int) = 1 then (if 50 < (t225.length : Int) then ((leadlag_Running.f k2 ((rd_T32 t225 50).f0) ((rd_T32 t225 50).f1) ((rd_T32 t225 50).f2)).bind fun t230 => ((leadlag_Spread.f k2 ((rd_T32 t225 50).f0) ((rd_T32 t225 50).f1) ((rd_T32 t225 50).f2)).bind fun bt234 => (if 0 < (t213.length : Int) then (if (rd t213 0) = 0 then (if 0 < (t217.length : Int) then (if (rd t217 0) = 1 then (if 100 < (t208.length : Int) then (if 0 < (((rd_T32 t208 100).f0).length : Int) then (if ((rd_T62 ((rd_T32 t208 100).f0) 0).f0) = 100 then (if (t230.length : Int) = 1 then (if 0 < (t230.length : Int) then (if (rd t230 0) = 1 then (if bt234.2 = 0 then (if bt234.1 = 10 then (if 5 < (t225.length : Int) then ((leadlag_Short.f k2 ((rd_T32 t225 5).f0) ((rd_T32 t225 5).f1) ((rd_T32 t225 5).f2) 2).bind fun t242 => (if t242 = 1 then (if 10 < (t225.length : Int) then ((leadlag_Running.f k2 ((rd_T32 t225 10).f0) ((rd_T32 t225 10).f1) ((rd_T32 t225 10).f2)).bind fun t244 => (if (t244.length : Int) = 2 then ((leadlag_Order.f k2 ((rd_T32 t225 50).f0) ((rd_T32 t225 50).f1) ((rd_T32 t225 50).f2)).bind fun t248 => (if 0 < (t248.length : Int) then (if (rd t248 0) = 1 then ((leadlag_Check.f k2 100 10 t196 t199 t200).bind fun t252 => (some (t252 == 0))) else (none)) else (none))) else (none))) else (none)) else (none))) else (none)) else (none)) else (none)) else (none)) else (none)) else (none)) else (none)) else (none)) else (none)) else (none)) else (none)) else (none)) else (none)))) else (none)) else (some false)) else (none)) else (none)) else (none)) = some r:=H
     have A42:=Aside0.mk A420
     clear A420
     by_cases c43 : t228 = 0
     rotate_left
     ·rw [if_neg c43] at H
      exact absurd H (by simp)
     rw [if_pos c43] at H
     have c43b0 : (t228 == 0) = true:=beq_iff_eq.mpr c43
     have c43b1 : (t228 != 0) = false:=bne_eq_false_iff_eq.mpr c43
     clear c43
     by_cases c44 : (t225.length : Int) = 51
     rotate_left
     ·rw [if_neg c44] at H
      exact absurd H (by simp)
     rw [if_pos c44] at H
     have c44b0 : ((t225.length : Int) == 51) = true:=beq_iff_eq.mpr c44
     have c44b1 : ((t225.length : Int) != 51) = false:=bne_eq_false_iff_eq.mpr c44
     clear c44
     by_cases c45 : (t213.length : Int) = 1
     rotate_left
     ·rw [if_neg c45] at H
      exact absurd H (by simp)
     rw [if_pos c45] at H
     have c45b0 : ((t213.length : Int) == 1) = true:=beq_iff_eq.mpr c45
     have c45b1 : ((t213.length : Int) != 1) = false:=bne_eq_false_iff_eq.mpr c45
     clear c45
     by_cases c46 : (t217.length : Int) = 1
     rotate_left
     ·rw [if_neg c46] at H
      have c46b0 : ((t217.length : Int) == 1) = false:=beq_eq_false_iff_ne.mpr c46
      have c46b1 : ((t217.length : Int) != 1) = true:=bne_iff_ne.mpr c46
      obtain rfl:=Option.some.inj H
      try go_wp2
      have n0_:=Aside0.mk (Kd.R_drew HO_4.out)
      have n1_:=Aside0.mk (Kd.S_drew HO_6.out)
      have n2_:=Aside0.mk (Kd.R_drew HO_8.out)
      have n3_:=Aside0.mk (Kd.R_drew HO_9.out)
      have n4_:=Aside0.mk (Kd.R_drew HO_203000.out)
      have n5_:=Aside0.mk (blk_drew BK202.out)
      have n6_:=Aside0.mk (blk_drew BK203.out)
      have n7_:=Aside0.mk (below_drew1 HB.out)
      clear HO_4
      clear HO_6
      clear HO_8
      clear HO_9
      clear HO_203000
      clear BK202
      clear BK203
      clear HB
      have HO_4:=n0_
      have HO_6:=n1_
      have HO_8:=n2_
      have HO_9:=n3_
      have HO_203000:=n4_
      have BK202:=n5_
      have BK203:=n6_
      have HB:=n7_
      clear n0_ n1_ n2_ n3_ n4_ n5_ n6_ n7_
      have q91 : (51 : Int) ≤ ((x4_2.length : Int) : Int):=of_decide_eq_true (by first|(with_reducible assumption)|assumption)
      obtain ⟨i091,hi091,_,hsz91,_⟩:=info_parts info3
      have hroom91 : x4_2.length ≤ co26:=(Kd.R_reads' HO_4.out).2.1
      have hC91 : Kd.C (Kd.int .i64) _ Ao26 x4_2.length x4_2:=(Kd.R_reads' HO_4.out).2.2
      have hcut91:=cut_to (P:=Try.prog) 49 3 .i64 Try.underlying49 hi091 Ao26 x4_2.length co26 51 (by omega) q91 hroom91
      have hr91:=Kd.C_take (m:=51) hC91 (by omega)
      have hy91 : y221.length = (51 : Int).toNat:=(by rw [Ny221.out,List.length_take];omega)
      rw [← Ny221.out] at hr91
      rw [← hy91] at hcut91
      have HR224:=Aside0.mk hr91
      have HC224:=Aside0.mk (show y221.length ≤ co26 from by omega)
      clear hr91 hC91 hroom91 hi091 hsz91
      have KY91:=Aside0.mk hy91
      clear hy91
      have KL91:=Aside0.mk (show 51 ≤ x4_2.length from by omega)
      replace q91:=eq_true q91
      refine start_ (n:=10) (S:=fun w' => w'.cell? ⟨gb203,0,none⟩ = some (.int .i64 100)∧w'.cell? ⟨gb203,1,none⟩ = some (.int .i64 10)∧w'.cell? ⟨gb202,0,none⟩ = some (.slice Ao5 t196.length co5)∧w'.cell? ⟨gb202,1,none⟩ = some (.int .i64 t199)∧w'.cell? ⟨gb202,2,none⟩ = some (.int .i64 t200)) (ds:=[]) #[false,false,false,false,false,false,false,false,false,false] (by kernel_rfl) rfl rfl ⟨(blk_cell BK203.out 0).trans rfl,(blk_cell BK203.out 1).trans rfl,(blk_cell BK202.out 0).trans rfl,(blk_cell BK202.out 1).trans rfl,(blk_cell BK202.out 2).trans rfl⟩ (fun hHeld => ?_);refine with_tabW plenumlaw55_awake.tab16 plenumlaw55_awake.bits16 (fun HT_ HW_ => ?_)
      generalize wr.drew = w90 at HO_4 HO_6 HO_8 HO_9 HO_203000 BK202 BK203 HB HR224 hHeld ⊢
      refine pure_ (i:=2) (N:=some 67) (v:=?_) (a':=?_) #[false,false,true,false,false,false,false,false,false,false] rfl rfl (any_of HT_.out (by kernel_rfl)) (fun _ _ _ h => h) (Or.inl ⟨by rfl,?_⟩) ?_ ?_
      rotate_left;(intro w';go_simp;with_reducible rfl);rotate_left;(simp only [Act.put,List.setIfInBounds_toArray,List.set_cons_zero,List.set_cons_succ,i64_w,i32_w];rfl)
      refine pure_ (i:=3) (N:=some 68) (v:=?_) (a':=?_) #[false,false,true,true,false,false,false,false,false,false] rfl rfl (any_of HT_.out (by kernel_rfl)) (fun _ _ _ h => h) (Or.inl ⟨by rfl,?_⟩) ?_ ?_
      rotate_left;(intro w';go_simp;with_reducible rfl);rotate_left;(simp only [Act.put,List.setIfInBounds_toArray,List.set_cons_zero,List.set_cons_succ,i64_w,i32_w];rfl)
      refine take_ (i:=0) (N:=some 65) (v:=?_) (a':=?_) #[true,false,true,true,false,false,false,false,false,false] rfl rfl (take_ofW HT_.out HW_.out (by kernel_rfl)) (fun _ _ _ h => h) (Or.inl ⟨by rfl,?_⟩) hHeld ?_ ?_
      rotate_left;(rintro w' ⟨s0,s1,s2,s3,s4⟩;go_simp;with_reducible rfl);rotate_left;(simp only [Act.put,List.setIfInBounds_toArray,List.set_cons_zero,List.set_cons_succ,i64_w,i32_w];rfl)
      refine take_ (i:=1) (N:=some 66) (v:=?_) (a':=?_) #[true,true,true,true,false,false,false,false,false,false] rfl rfl (take_ofW HT_.out HW_.out (by kernel_rfl)) (fun _ _ _ h => h) (Or.inl ⟨by rfl,?_⟩) hHeld ?_ ?_
      rotate_left;(rintro w' ⟨s0,s1,s2,s3,s4⟩;go_simp;with_reducible rfl);rotate_left;(simp only [Act.put,List.setIfInBounds_toArray,List.set_cons_zero,List.set_cons_succ,i64_w,i32_w];rfl)
      refine one_ (i:=4) (N:=some 69) #[true,true,true,true,true,false,false,false,false,false] rfl rfl (one_of HT_.out (by kernel_rfl)) (by decide) (fun K hK => ?_)
      refine goes_ Try.func26 (by kernel_rfl) rfl #[.agg #[.int .i64 100,.int .i64 10],.agg #[.slice Ao5 t196.length co5,.int .i64 t199,.int .i64 t200],.slice Ao26 y221.length co26,.int .i64 0] (by rfl) rfl rfl (by (try simp only [List.map_toArray,List.map_cons,List.map_nil]);first|done|rfl|(simp only [List.length_drop,List.length_take];rfl)) ?_
      with_reducible refine (leadlag_Play.calls k2 100 10 _ _ t196 t199 t200 _ _ y221 0 t225 t228 _ ?side1 ?side2 ?side3 ?side4 A42.out).mono ?_
      (case side1 => repeat (first|exact (Kd.R_reads' HO_203000.out).2.2|(with_reducible refine Kd.C_alloc ?_ _)|(with_reducible refine Kd.C_drewN ?_ _)|(with_reducible refine Kd.C_drew ?_)))
      (case side2 => exact (Kd.R_reads' HO_203000.out).2.1)
      (case side3 => repeat (first|exact (by repeat (first|(with_reducible exact HR224.out)|(with_reducible refine Kd.C_alloc ?_ _)|(with_reducible refine Kd.C_drewN ?_ _)|(with_reducible refine Kd.C_drew ?_)|exact HR224.out))|(with_reducible refine Kd.C_alloc ?_ _)|(with_reducible refine Kd.C_drewN ?_ _)|(with_reducible refine Kd.C_drew ?_)))
      (case side4 => exact HC224.out)
      rintro e w92 ⟨v226,rfl,ho0,hb⟩
      refine ⟨_,rfl,?_⟩
      have n0_:=Aside0.mk (Kd.R_below (by (with_reducible repeat (first|apply Kd.R_alloc|apply Kd.R_drewN|apply Kd.R_drew));exact HO_4.out) hb)
      have n1_:=Aside0.mk (Kd.S_elder' (by (with_reducible repeat (first|apply Kd.S_alloc|apply Kd.S_drewN|apply Kd.S_drew));exact HO_6.out) (Kd.S_base ho0) hb)
      have n2_:=Aside0.mk (Kd.R_below (by (with_reducible repeat (first|apply Kd.R_alloc|apply Kd.R_drewN|apply Kd.R_drew));exact HO_8.out) hb)
      have n3_:=Aside0.mk (Kd.R_below (by (with_reducible repeat (first|apply Kd.R_alloc|apply Kd.R_drewN|apply Kd.R_drew));exact HO_9.out) hb)
      have n4_:=Aside0.mk (Kd.R_below (by (with_reducible repeat (first|apply Kd.R_alloc|apply Kd.R_drewN|apply Kd.R_drew));exact HO_203000.out) hb)
      have n5_:=Aside0.mk (Kd.S_lower (Kd.S_newB (Kd.S_new' (Kd.S_new' ho0 (Kd.S_lt (by (with_reducible repeat (first|apply Kd.S_alloc|apply Kd.S_drewN|apply Kd.S_drew));exact HO_6.out))) (Kd.R_lt (by (with_reducible repeat (first|apply Kd.R_alloc|apply Kd.R_drewN|apply Kd.R_drew));exact HO_203000.out))) (g:=gb202) (o:=.cells #[.slice Ao5 t196.length co5,.int .i64 t199,.int .i64 t200] 32 (0,0)) (by (with_reducible repeat (first|refine blk_drewN ?_ _|refine blk_drew ?_|refine blk_alloc ?_ _));exact BK202.out)) (below_size (by repeat (first|(with_reducible first|exact HB.out|apply below_alloc|apply pw_below_drewN|apply below_drew1|refine below_set ?_ GE202.out|refine below_set ?_ GE203.out)|exact HB.out))))
      have n6_:=Aside0.mk (blk_below (g:=gb202) (o:=.cells #[.slice Ao5 t196.length co5,.int .i64 t199,.int .i64 t200] 32 (0,0)) (by (with_reducible repeat (first|refine blk_drewN ?_ _|refine blk_drew ?_|refine blk_alloc ?_ _));exact BK202.out) hb)
      have n7_:=Aside0.mk (blk_below (g:=gb203) (o:=.cells #[.int .i64 100,.int .i64 10] 43 (0,0)) (by (with_reducible repeat (first|refine blk_drewN ?_ _|refine blk_drew ?_|refine blk_alloc ?_ _));exact BK203.out) hb)
      have n8_:=Aside0.mk (Kd.C_below (by repeat (first|(with_reducible exact HR224.out)|(with_reducible refine Kd.C_alloc ?_ _)|(with_reducible refine Kd.C_drewN ?_ _)|(with_reducible refine Kd.C_drew ?_)|exact HR224.out)) hb)
      have n9_:=Aside0.mk (below_step (by repeat (first|(with_reducible first|exact HB.out|apply below_alloc|apply pw_below_drewN|apply below_drew1|refine below_set ?_ GE202.out|refine below_set ?_ GE203.out)|exact HB.out)) hb)
      clear HO_4
      clear HO_6
      clear HO_8
      clear HO_9
      clear HO_203000
      clear BK202
      clear BK203
      clear HR224
      clear HB
      have HO_4:=n0_
      have HO_6:=n1_
      have HO_8:=n2_
      have HO_9:=n3_
      have HO_203000:=n4_
      have HO227:=n5_
      have BK202:=n6_
      have BK203:=n7_
      have HR224:=n8_
      have HB:=n9_
      clear n0_ n1_ n2_ n3_ n4_ n5_ n6_ n7_ n8_ n9_
      (try clear hb)
      (try clear hb2)
      (try clear hk)
      (try clear hi)
      (try clear ho0)
      refine hK.out _ _ ⟨(blk_cell BK203.out 0).trans rfl,(blk_cell BK203.out 1).trans rfl,(blk_cell BK202.out 0).trans rfl,(blk_cell BK202.out 1).trans rfl,(blk_cell BK202.out 2).trans rfl⟩ (fun hHeld => ?_)
      clear hK K
      refine norm_ (a':=?_) ?_ ?_
      rotate_left
      ·show Act.put _ (some 69) _ = _
       simp only [Act.put,List.setIfInBounds_toArray,List.set_cons_zero,List.set_cons_succ,i64_w,i32_w]
       rfl
      refine pure_ (i:=5) (N:=some 64) (v:=?_) (a':=?_) #[true,true,true,true,true,true,false,false,false,false] rfl rfl (any_of HT_.out (by kernel_rfl)) (fun _ _ _ h => h) (Or.inl ⟨by rfl,?_⟩) ?_ ?_
      rotate_left;(intro w';go_simp;with_reducible rfl);rotate_left;(simp only [Act.put,List.setIfInBounds_toArray,List.set_cons_zero,List.set_cons_succ,i64_w,i32_w];rfl)
      refine pure_ (i:=6) (N:=some 70) (v:=?_) (a':=?_) #[true,true,true,true,true,true,true,false,false,false] rfl rfl (any_of HT_.out (by kernel_rfl)) (fun _ _ _ h => h) (Or.inl ⟨by rfl,?_⟩) ?_ ?_
      rotate_left;(intro w';go_simp;with_reducible rfl);rotate_left;(simp only [Act.put,List.setIfInBounds_toArray,List.set_cons_zero,List.set_cons_succ,i64_w,i32_w];rfl)
      refine pure_ (i:=7) (N:=some 71) (v:=?_) (a':=?_) #[true,true,true,true,true,true,true,true,false,false] rfl rfl (any_of HT_.out (by kernel_rfl)) (fun _ _ _ h => h) (Or.inl ⟨by rfl,?_⟩) ?_ ?_
      rotate_left;(intro w';go_simp;with_reducible rfl);rotate_left;(simp only [Act.put,List.setIfInBounds_toArray,List.set_cons_zero,List.set_cons_succ,i64_w,i32_w];rfl)
      refine pure_ (i:=8) (N:=some 11) (v:=?_) (a':=?_) #[true,true,true,true,true,true,true,true,true,false] rfl rfl (any_of HT_.out (by kernel_rfl)) (fun _ _ _ h => h) (Or.inl ⟨by rfl,?_⟩) ?_ ?_
      rotate_left;(intro w';go_simp;with_reducible rfl);rotate_left;(simp only [Act.put,List.setIfInBounds_toArray,List.set_cons_zero,List.set_cons_succ,i64_w,i32_w];rfl)
      refine pure_ (i:=9) (N:=some 12) (v:=?_) (a':=?_) #[true,true,true,true,true,true,true,true,true,true] rfl rfl (any_of HT_.out (by kernel_rfl)) (fun _ _ _ h => h) (Or.inl ⟨by rfl,?_⟩) ?_ ?_
      rotate_left;(intro w';go_simp;with_reducible rfl);rotate_left;(simp only [Act.put,List.setIfInBounds_toArray,List.set_cons_zero,List.set_cons_succ,i64_w,i32_w];rfl)
      refine done_ (done_of HT_.out (by kernel_rfl)) ?_
      obtain ⟨Ao93,co93,eo93⟩:=Kd.S_slice HO227.out
      subst eo93
      obtain ⟨Ao94,co94,eo94⟩:=Kd.R_slice HO_8.out
      subst eo94
      obtain ⟨Ao95,co95,eo95⟩:=Kd.R_slice HO_9.out
      subst eo95
      try go_wp2
      go_ret
      exact ⟨by first|rfl|(simp [errW_none,errW_some] <;> rfl)|(simp [*,errW_none,errW_some] <;> rfl),by repeat (first|(with_reducible first|exact HB.out|apply below_alloc|apply pw_below_drewN|apply below_drew1|refine below_set ?_ GE202.out|refine below_set ?_ GE203.out)|exact HB.out)⟩
     rw [if_pos c46] at H
     have c46b0 : ((t217.length : Int) == 1) = true:=beq_iff_eq.mpr c46
     have c46b1 : ((t217.length : Int) != 1) = false:=bne_eq_false_iff_eq.mpr c46
     clear c46
     by_cases c47 : 50 < (t225.length : Int)
     rotate_left
     ·rw [if_neg c47] at H
      exact absurd H (by simp)
     rw [if_pos c47] at H
     have c47b0 : decide (50 < (t225.length : Int)) = true:=decide_eq_true c47
     have c47b1 : decide (50 < t225.length) = true:=decide_eq_true (by omega)
     clear c47
     replace H:=Option.bind_eq_some_iff.mp H
     obtain ⟨t230,A480,H⟩:=H
     replace H : ((leadlag_Spread.f k2 ((rd_T32 t225 50).f0) ((rd_T32 t225 50).f1) ((rd_T32 t225 50).f2)).bind fun bt234 => (if 0 < (t213.length : Int) then (if (rd t213 0) = 0 then (if 0 < (t217.length : Int) then (if (rd t217 0) = 1 then (if 100 < (t208.length : Int) then (if 0 < (((rd_T32 t208 100).f0).length : Int) then (if ((rd_T62 ((rd_T32 t208 100).f0) 0).f0) = 100 then (if (t230.length : Int) = 1 then (if 0 < (t230.length : Int) then (if (rd t230 0) = 1 then (if bt234.2 = 0 then (if bt234.1 = 10 then (if 5 < (t225.length : Int) then ((leadlag_Short.f k2 ((rd_T32 t225 5).f0) ((rd_T32 t225 5).f1) ((rd_T32 t225 5).f2) 2).bind fun t242 => (if t242 = 1 then (if 10 < (t225.length : Int) then ((leadlag_Running.f k2 ((rd_T32 t225 10).f0) ((rd_T32 t225 10).f1) ((rd_T32 t225 10).f2)).bind fun t244 => (if (t244.length : Int) = 2 then ((leadlag_Order.f k2 ((rd_T32 t225 50).f0) ((rd_T32 t225 50).f1) ((rd_T32 t225 50).f2)).bind fun t248 => (if 0 < (t248.length : Int) then (if (rd t248 0) = 1 then ((leadlag_Check.f k2 100 10 t196 t199 t200).bind fun t252 => (some (t252 == 0))) else (none)) else (none))) else (none))) else (none)) else (none))) else (none)) else (none)) else (none)) else (none)) else (none)) else (none)) else (none)) else (none)) else (none)) else (none)) else (none)) else (none)) else (none))) = some r:=H
     have A48:=Aside0.mk A480
     clear A480
     replace H:=Option.bind_eq_some_iff.mp H
     obtain ⟨⟨t234,t235⟩,A490,H⟩:=H
     replace H : (if 0 < (t213.length : Int) then (if (rd t213 0) = 0 then (if 0 < (t217.length : Int) then (if (rd t217 0) = 1 then (if 100 < (t208.length : Int) then (if 0 < (((rd_T32 t208 100).f0).length : Int) then (if ((rd_T62 ((rd_T32 t208 100).f0) 0).f0) = 100 then (if (t230.length : Int) = 1 then (if 0 < (t230.length : Int) then (if (rd t230 0) = 1 then (if t235 = 0 then (if t234 = 10 then (if 5 < (t225.length : Int) then ((leadlag_Short.f k2 ((rd_T32 t225 5).f0) ((rd_T32 t225 5).f1) ((rd_T32 t225 5).f2) 2).bind fun t242 => (if t242 = 1 then (if 10 < (t225.length : Int) then ((leadlag_Running.f k2 ((rd_T32 t225 10).f0) ((rd_T32 t225 10).f1) ((rd_T32 t225 10).f2)).bind fun t244 => (if (t244.length : Int) = 2 then ((leadlag_Order.f k2 ((rd_T32 t225 50).f0) ((rd_T32 t225 50).f1) ((rd_T32 t225 50).f2)).bind fun t248 => (if 0 < (t248.length : Int) then (if (rd t248 0) = 1 then ((leadlag_Check.f k2 100 10 t196 t199 t200).bind fun t252 => (some (t252 == 0))) else (none)) else (none))) else (none))) else (none)) else (none))) else (none)) else (none)) else (none)) else (none)) else (none)) else (none)) else (none)) else (none)) else (none)) else (none)) else (none)) else (none)) else (none)) = some r:=H
     have A49:=Aside0.mk A490
     clear A490
     by_cases c50 : 0 < (t213.length : Int)
     rotate_left
     ·rw [if_neg c50] at H
      exact absurd H (by simp)
     rw [if_pos c50] at H
     have c50b0 : decide (0 < (t213.length : Int)) = true:=decide_eq_true c50
     have c50b1 : decide (0 < t213.length) = true:=decide_eq_true (by omega)
     clear c50
     by_cases c51 : (rd t213 0) = 0
     rotate_left
     ·rw [if_neg c51] at H
      exact absurd H (by simp)
     rw [if_pos c51] at H
     have c51b0 : ((rd t213 0) == 0) = true:=beq_iff_eq.mpr c51
     have c51b1 : ((rd t213 0) != 0) = false:=bne_eq_false_iff_eq.mpr c51
     clear c51
     by_cases c52 : 0 < (t217.length : Int)
     rotate_left
     ·rw [if_neg c52] at H
      exact absurd H (by simp)
     rw [if_pos c52] at H
     have c52b0 : decide (0 < (t217.length : Int)) = true:=decide_eq_true c52
     have c52b1 : decide (0 < t217.length) = true:=decide_eq_true (by omega)
     clear c52
     by_cases c53 : (rd t217 0) = 1
     rotate_left
     ·rw [if_neg c53] at H
      exact absurd H (by simp)
     rw [if_pos c53] at H
     have c53b0 : ((rd t217 0) == 1) = true:=beq_iff_eq.mpr c53
     have c53b1 : ((rd t217 0) != 1) = false:=bne_eq_false_iff_eq.mpr c53
     clear c53
     by_cases c54 : 100 < (t208.length : Int)
     rotate_left
     ·rw [if_neg c54] at H
      exact absurd H (by simp)
     rw [if_pos c54] at H
     have c54b0 : decide (100 < (t208.length : Int)) = true:=decide_eq_true c54
     have c54b1 : decide (100 < t208.length) = true:=decide_eq_true (by omega)
     clear c54
     by_cases c55 : 0 < (((rd_T32 t208 100).f0).length : Int)
     rotate_left
     ·rw [if_neg c55] at H
      exact absurd H (by simp)
     rw [if_pos c55] at H
     have c55b0 : decide (0 < (((rd_T32 t208 100).f0).length : Int)) = true:=decide_eq_true c55
     have c55b1 : decide (0 < ((rd_T32 t208 100).f0).length) = true:=decide_eq_true (by omega)
     clear c55
     by_cases c56 : ((rd_T62 ((rd_T32 t208 100).f0) 0).f0) = 100
     rotate_left
     ·rw [if_neg c56] at H
      exact absurd H (by simp)
     rw [if_pos c56] at H
     have c56b0 : (((rd_T62 ((rd_T32 t208 100).f0) 0).f0) == 100) = true:=beq_iff_eq.mpr c56
     have c56b1 : (((rd_T62 ((rd_T32 t208 100).f0) 0).f0) != 100) = false:=bne_eq_false_iff_eq.mpr c56
     clear c56
     by_cases c57 : (t230.length : Int) = 1
     rotate_left
     ·rw [if_neg c57] at H
      exact absurd H (by simp)
     rw [if_pos c57] at H
     have c57b0 : ((t230.length : Int) == 1) = true:=beq_iff_eq.mpr c57
     have c57b1 : ((t230.length : Int) != 1) = false:=bne_eq_false_iff_eq.mpr c57
     clear c57
     by_cases c58 : 0 < (t230.length : Int)
     rotate_left
     ·rw [if_neg c58] at H
      exact absurd H (by simp)
     rw [if_pos c58] at H
     have c58b0 : decide (0 < (t230.length : Int)) = true:=decide_eq_true c58
     have c58b1 : decide (0 < t230.length) = true:=decide_eq_true (by omega)
     clear c58
     by_cases c59 : (rd t230 0) = 1
     rotate_left
     ·rw [if_neg c59] at H
      exact absurd H (by simp)
     rw [if_pos c59] at H
     have c59b0 : ((rd t230 0) == 1) = true:=beq_iff_eq.mpr c59
     have c59b1 : ((rd t230 0) != 1) = false:=bne_eq_false_iff_eq.mpr c59
     clear c59
     by_cases c60 : t235 = 0
     rotate_left
     ·rw [if_neg c60] at H
      exact absurd H (by simp)
     rw [if_pos c60] at H
     have c60b0 : (t235 == 0) = true:=beq_iff_eq.mpr c60
     have c60b1 : (t235 != 0) = false:=bne_eq_false_iff_eq.mpr c60
     clear c60
     by_cases c61 : t234 = 10
     rotate_left
     ·rw [if_neg c61] at H
      exact absurd H (by simp)
     rw [if_pos c61] at H
     have c61b0 : (t234 == 10) = true:=beq_iff_eq.mpr c61
     have c61b1 : (t234 != 10) = false:=bne_eq_false_iff_eq.mpr c61
     clear c61
     by_cases c62 : 5 < (t225.length : Int)
     rotate_left
     ·rw [if_neg c62] at H
      exact absurd H (by simp)
     rw [if_pos c62] at H
     have c62b0 : decide (5 < (t225.length : Int)) = true:=decide_eq_true c62
     have c62b1 : decide (5 < t225.length) = true:=decide_eq_true (by omega)
     clear c62
     replace H:=Option.bind_eq_some_iff.mp H
     obtain ⟨t242,A630,H⟩:=H
     replace H : (if t242 = 1 then (if 10 < (t225.length : Int) then ((leadlag_Running.f k2 ((rd_T32 t225 10).f0) ((rd_T32 t225 10).f1) ((rd_T32 t225 10).f2)).bind fun t244 => (if (t244.length : Int) = 2 then ((leadlag_Order.f k2 ((rd_T32 t225 50).f0) ((rd_T32 t225 50).f1) ((rd_T32 t225 50).f2)).bind fun t248 => (if 0 < (t248.length : Int) then (if (rd t248 0) = 1 then ((leadlag_Check.f k2 100 10 t196 t199 t200).bind fun t252 => (some (t252 == 0))) else (none)) else (none))) else (none))) else (none)) else (none)) = some r:=H
     have A63:=Aside0.mk A630
     clear A630
     by_cases c64 : t242 = 1
     rotate_left
     ·rw [if_neg c64] at H
      exact absurd H (by simp)
     rw [if_pos c64] at H
     have c64b0 : (t242 == 1) = true:=beq_iff_eq.mpr c64
     have c64b1 : (t242 != 1) = false:=bne_eq_false_iff_eq.mpr c64
     clear c64
     by_cases c65 : 10 < (t225.length : Int)
     rotate_left
     ·rw [if_neg c65] at H
      exact absurd H (by simp)
     rw [if_pos c65] at H
     have c65b0 : decide (10 < (t225.length : Int)) = true:=decide_eq_true c65
     have c65b1 : decide (10 < t225.length) = true:=decide_eq_true (by omega)
     clear c65
     replace H:=Option.bind_eq_some_iff.mp H
     obtain ⟨t244,A660,H⟩:=H
     replace H : (if (t244.length : Int) = 2 then ((leadlag_Order.f k2 ((rd_T32 t225 50).f0) ((rd_T32 t225 50).f1) ((rd_T32 t225 50).f2)).bind fun t248 => (if 0 < (t248.length : Int) then (if (rd t248 0) = 1 then ((leadlag_Check.f k2 100 10 t196 t199 t200).bind fun t252 => (some (t252 == 0))) else (none)) else (none))) else (none)) = some r:=H
     have A66:=Aside0.mk A660
     clear A660
     by_cases c67 : (t244.length : Int) = 2
     rotate_left
     ·rw [if_neg c67] at H
      exact absurd H (by simp)
     rw [if_pos c67] at H
     have c67b0 : ((t244.length : Int) == 2) = true:=beq_iff_eq.mpr c67
     have c67b1 : ((t244.length : Int) != 2) = false:=bne_eq_false_iff_eq.mpr c67
     clear c67
     replace H:=Option.bind_eq_some_iff.mp H
     obtain ⟨t248,A680,H⟩:=H
     replace H : (if 0 < (t248.length : Int) then (if (rd t248 0) = 1 then ((leadlag_Check.f k2 100 10 t196 t199 t200).bind fun t252 => (some (t252 == 0))) else (none)) else (none)) = some r:=H
     have A68:=Aside0.mk A680
     clear A680
     by_cases c69 : 0 < (t248.length : Int)
     rotate_left
     ·rw [if_neg c69] at H
      exact absurd H (by simp)
     rw [if_pos c69] at H
     have c69b0 : decide (0 < (t248.length : Int)) = true:=decide_eq_true c69
     have c69b1 : decide (0 < t248.length) = true:=decide_eq_true (by omega)
     clear c69
     by_cases c70 : (rd t248 0) = 1
     rotate_left
     ·rw [if_neg c70] at H
      exact absurd H (by simp)
     rw [if_pos c70] at H
     have c70b0 : ((rd t248 0) == 1) = true:=beq_iff_eq.mpr c70
     have c70b1 : ((rd t248 0) != 1) = false:=bne_eq_false_iff_eq.mpr c70
     clear c70
     replace H:=Option.bind_eq_some_iff.mp H
     obtain ⟨t252,A710,H⟩:=H
     replace H : (some (t252 == 0)) = some r:=H
     have A71:=Aside0.mk A710
     clear A710
     obtain rfl:=Option.some.inj H
     try go_wp2
     have n0_:=Aside0.mk (Kd.R_drew HO_4.out)
     have n1_:=Aside0.mk (Kd.S_drew HO_6.out)
     have n2_:=Aside0.mk (Kd.R_drew HO_8.out)
     have n3_:=Aside0.mk (Kd.R_drew HO_9.out)
     have n4_:=Aside0.mk (Kd.R_drew HO_203000.out)
     have n5_:=Aside0.mk (blk_drew BK202.out)
     have n6_:=Aside0.mk (blk_drew BK203.out)
     have n7_:=Aside0.mk (below_drew1 HB.out)
     clear HO_4
     clear HO_6
     clear HO_8
     clear HO_9
     clear HO_203000
     clear BK202
     clear BK203
     clear HB
     have HO_4:=n0_
     have HO_6:=n1_
     have HO_8:=n2_
     have HO_9:=n3_
     have HO_203000:=n4_
     have BK202:=n5_
     have BK203:=n6_
     have HB:=n7_
     clear n0_ n1_ n2_ n3_ n4_ n5_ n6_ n7_
     have q73 : (51 : Int) ≤ ((x4_2.length : Int) : Int):=of_decide_eq_true (by first|(with_reducible assumption)|assumption)
     obtain ⟨i073,hi073,_,hsz73,_⟩:=info_parts info3
     have hroom73 : x4_2.length ≤ co26:=(Kd.R_reads' HO_4.out).2.1
     have hC73 : Kd.C (Kd.int .i64) _ Ao26 x4_2.length x4_2:=(Kd.R_reads' HO_4.out).2.2
     have hcut73:=cut_to (P:=Try.prog) 49 3 .i64 Try.underlying49 hi073 Ao26 x4_2.length co26 51 (by omega) q73 hroom73
     have hr73:=Kd.C_take (m:=51) hC73 (by omega)
     have hy73 : y221.length = (51 : Int).toNat:=(by rw [Ny221.out,List.length_take];omega)
     rw [← Ny221.out] at hr73
     rw [← hy73] at hcut73
     have HR224:=Aside0.mk hr73
     have HC224:=Aside0.mk (show y221.length ≤ co26 from by omega)
     clear hr73 hC73 hroom73 hi073 hsz73
     have KY73:=Aside0.mk hy73
     clear hy73
     have KL73:=Aside0.mk (show 51 ≤ x4_2.length from by omega)
     replace q73:=eq_true q73
     refine start_ (n:=10) (S:=fun w' => w'.cell? ⟨gb203,0,none⟩ = some (.int .i64 100)∧w'.cell? ⟨gb203,1,none⟩ = some (.int .i64 10)∧w'.cell? ⟨gb202,0,none⟩ = some (.slice Ao5 t196.length co5)∧w'.cell? ⟨gb202,1,none⟩ = some (.int .i64 t199)∧w'.cell? ⟨gb202,2,none⟩ = some (.int .i64 t200)) (ds:=[]) #[false,false,false,false,false,false,false,false,false,false] (by kernel_rfl) rfl rfl ⟨(blk_cell BK203.out 0).trans rfl,(blk_cell BK203.out 1).trans rfl,(blk_cell BK202.out 0).trans rfl,(blk_cell BK202.out 1).trans rfl,(blk_cell BK202.out 2).trans rfl⟩ (fun hHeld => ?_);refine with_tabW plenumlaw55_awake.tab16 plenumlaw55_awake.bits16 (fun HT_ HW_ => ?_)
     generalize wr.drew = w72 at HO_4 HO_6 HO_8 HO_9 HO_203000 BK202 BK203 HB HR224 hHeld ⊢
     refine pure_ (i:=2) (N:=some 67) (v:=?_) (a':=?_) #[false,false,true,false,false,false,false,false,false,false] rfl rfl (any_of HT_.out (by kernel_rfl)) (fun _ _ _ h => h) (Or.inl ⟨by rfl,?_⟩) ?_ ?_
     rotate_left;(intro w';go_simp;with_reducible rfl);rotate_left;(simp only [Act.put,List.setIfInBounds_toArray,List.set_cons_zero,List.set_cons_succ,i64_w,i32_w];rfl)
     refine pure_ (i:=3) (N:=some 68) (v:=?_) (a':=?_) #[false,false,true,true,false,false,false,false,false,false] rfl rfl (any_of HT_.out (by kernel_rfl)) (fun _ _ _ h => h) (Or.inl ⟨by rfl,?_⟩) ?_ ?_
     rotate_left;(intro w';go_simp;with_reducible rfl);rotate_left;(simp only [Act.put,List.setIfInBounds_toArray,List.set_cons_zero,List.set_cons_succ,i64_w,i32_w];rfl)
     refine take_ (i:=0) (N:=some 65) (v:=?_) (a':=?_) #[true,false,true,true,false,false,false,false,false,false] rfl rfl (take_ofW HT_.out HW_.out (by kernel_rfl)) (fun _ _ _ h => h) (Or.inl ⟨by rfl,?_⟩) hHeld ?_ ?_
     rotate_left;(rintro w' ⟨s0,s1,s2,s3,s4⟩;go_simp;with_reducible rfl);rotate_left;(simp only [Act.put,List.setIfInBounds_toArray,List.set_cons_zero,List.set_cons_succ,i64_w,i32_w];rfl)
     refine take_ (i:=1) (N:=some 66) (v:=?_) (a':=?_) #[true,true,true,true,false,false,false,false,false,false] rfl rfl (take_ofW HT_.out HW_.out (by kernel_rfl)) (fun _ _ _ h => h) (Or.inl ⟨by rfl,?_⟩) hHeld ?_ ?_
     rotate_left;(rintro w' ⟨s0,s1,s2,s3,s4⟩;go_simp;with_reducible rfl);rotate_left;(simp only [Act.put,List.setIfInBounds_toArray,List.set_cons_zero,List.set_cons_succ,i64_w,i32_w];rfl)
     refine one_ (i:=4) (N:=some 69) #[true,true,true,true,true,false,false,false,false,false] rfl rfl (one_of HT_.out (by kernel_rfl)) (by decide) (fun K hK => ?_)
     refine goes_ Try.func26 (by kernel_rfl) rfl #[.agg #[.int .i64 100,.int .i64 10],.agg #[.slice Ao5 t196.length co5,.int .i64 t199,.int .i64 t200],.slice Ao26 y221.length co26,.int .i64 0] (by rfl) rfl rfl (by (try simp only [List.map_toArray,List.map_cons,List.map_nil]);first|done|rfl|(simp only [List.length_drop,List.length_take];rfl)) ?_
     with_reducible refine (leadlag_Play.calls k2 100 10 _ _ t196 t199 t200 _ _ y221 0 t225 t228 _ ?side1 ?side2 ?side3 ?side4 A42.out).mono ?_
     (case side1 => repeat (first|exact (Kd.R_reads' HO_203000.out).2.2|(with_reducible refine Kd.C_alloc ?_ _)|(with_reducible refine Kd.C_drewN ?_ _)|(with_reducible refine Kd.C_drew ?_)))
     (case side2 => exact (Kd.R_reads' HO_203000.out).2.1)
     (case side3 => repeat (first|exact (by repeat (first|(with_reducible exact HR224.out)|(with_reducible refine Kd.C_alloc ?_ _)|(with_reducible refine Kd.C_drewN ?_ _)|(with_reducible refine Kd.C_drew ?_)|exact HR224.out))|(with_reducible refine Kd.C_alloc ?_ _)|(with_reducible refine Kd.C_drewN ?_ _)|(with_reducible refine Kd.C_drew ?_)))
     (case side4 => exact HC224.out)
     rintro e w74 ⟨v226,rfl,ho0,hb⟩
     refine ⟨_,rfl,?_⟩
     have n0_:=Aside0.mk (Kd.R_below (by (with_reducible repeat (first|apply Kd.R_alloc|apply Kd.R_drewN|apply Kd.R_drew));exact HO_4.out) hb)
     have n1_:=Aside0.mk (Kd.S_elder' (by (with_reducible repeat (first|apply Kd.S_alloc|apply Kd.S_drewN|apply Kd.S_drew));exact HO_6.out) (Kd.S_base ho0) hb)
     have n2_:=Aside0.mk (Kd.R_below (by (with_reducible repeat (first|apply Kd.R_alloc|apply Kd.R_drewN|apply Kd.R_drew));exact HO_8.out) hb)
     have n3_:=Aside0.mk (Kd.R_below (by (with_reducible repeat (first|apply Kd.R_alloc|apply Kd.R_drewN|apply Kd.R_drew));exact HO_9.out) hb)
     have n4_:=Aside0.mk (Kd.R_below (by (with_reducible repeat (first|apply Kd.R_alloc|apply Kd.R_drewN|apply Kd.R_drew));exact HO_203000.out) hb)
     have n5_:=Aside0.mk (Kd.S_lower (Kd.S_newB (Kd.S_new' (Kd.S_new' ho0 (Kd.S_lt (by (with_reducible repeat (first|apply Kd.S_alloc|apply Kd.S_drewN|apply Kd.S_drew));exact HO_6.out))) (Kd.R_lt (by (with_reducible repeat (first|apply Kd.R_alloc|apply Kd.R_drewN|apply Kd.R_drew));exact HO_203000.out))) (g:=gb202) (o:=.cells #[.slice Ao5 t196.length co5,.int .i64 t199,.int .i64 t200] 32 (0,0)) (by (with_reducible repeat (first|refine blk_drewN ?_ _|refine blk_drew ?_|refine blk_alloc ?_ _));exact BK202.out)) (below_size (by repeat (first|(with_reducible first|exact HB.out|apply below_alloc|apply pw_below_drewN|apply below_drew1|refine below_set ?_ GE202.out|refine below_set ?_ GE203.out)|exact HB.out))))
     have n6_:=Aside0.mk (blk_below (g:=gb202) (o:=.cells #[.slice Ao5 t196.length co5,.int .i64 t199,.int .i64 t200] 32 (0,0)) (by (with_reducible repeat (first|refine blk_drewN ?_ _|refine blk_drew ?_|refine blk_alloc ?_ _));exact BK202.out) hb)
     have n7_:=Aside0.mk (blk_below (g:=gb203) (o:=.cells #[.int .i64 100,.int .i64 10] 43 (0,0)) (by (with_reducible repeat (first|refine blk_drewN ?_ _|refine blk_drew ?_|refine blk_alloc ?_ _));exact BK203.out) hb)
     have n8_:=Aside0.mk (Kd.C_below (by repeat (first|(with_reducible exact HR224.out)|(with_reducible refine Kd.C_alloc ?_ _)|(with_reducible refine Kd.C_drewN ?_ _)|(with_reducible refine Kd.C_drew ?_)|exact HR224.out)) hb)
     have n9_:=Aside0.mk (below_step (by repeat (first|(with_reducible first|exact HB.out|apply below_alloc|apply pw_below_drewN|apply below_drew1|refine below_set ?_ GE202.out|refine below_set ?_ GE203.out)|exact HB.out)) hb)
     clear HO_4
     clear HO_6
     clear HO_8
     clear HO_9
     clear HO_203000
     clear BK202
     clear BK203
     clear HR224
     clear HB
     have HO_4:=n0_
     have HO_6:=n1_
     have HO_8:=n2_
     have HO_9:=n3_
     have HO_203000:=n4_
     have HO227:=n5_
     have BK202:=n6_
     have BK203:=n7_
     have HR224:=n8_
     have HB:=n9_
     clear n0_ n1_ n2_ n3_ n4_ n5_ n6_ n7_ n8_ n9_
     (try clear hb)
     (try clear hb2)
     (try clear hk)
     (try clear hi)
     (try clear ho0)
     refine hK.out _ _ ⟨(blk_cell BK203.out 0).trans rfl,(blk_cell BK203.out 1).trans rfl,(blk_cell BK202.out 0).trans rfl,(blk_cell BK202.out 1).trans rfl,(blk_cell BK202.out 2).trans rfl⟩ (fun hHeld => ?_)
     clear hK K
     refine norm_ (a':=?_) ?_ ?_
     rotate_left
     ·show Act.put _ (some 69) _ = _
      simp only [Act.put,List.setIfInBounds_toArray,List.set_cons_zero,List.set_cons_succ,i64_w,i32_w]
      rfl
     refine pure_ (i:=5) (N:=some 64) (v:=?_) (a':=?_) #[true,true,true,true,true,true,false,false,false,false] rfl rfl (any_of HT_.out (by kernel_rfl)) (fun _ _ _ h => h) (Or.inl ⟨by rfl,?_⟩) ?_ ?_
     rotate_left;(intro w';go_simp;with_reducible rfl);rotate_left;(simp only [Act.put,List.setIfInBounds_toArray,List.set_cons_zero,List.set_cons_succ,i64_w,i32_w];rfl)
     refine pure_ (i:=6) (N:=some 70) (v:=?_) (a':=?_) #[true,true,true,true,true,true,true,false,false,false] rfl rfl (any_of HT_.out (by kernel_rfl)) (fun _ _ _ h => h) (Or.inl ⟨by rfl,?_⟩) ?_ ?_
     rotate_left;(intro w';go_simp;with_reducible rfl);rotate_left;(simp only [Act.put,List.setIfInBounds_toArray,List.set_cons_zero,List.set_cons_succ,i64_w,i32_w];rfl)
     refine pure_ (i:=7) (N:=some 71) (v:=?_) (a':=?_) #[true,true,true,true,true,true,true,true,false,false] rfl rfl (any_of HT_.out (by kernel_rfl)) (fun _ _ _ h => h) (Or.inl ⟨by rfl,?_⟩) ?_ ?_
     rotate_left;(intro w';go_simp;with_reducible rfl);rotate_left;(simp only [Act.put,List.setIfInBounds_toArray,List.set_cons_zero,List.set_cons_succ,i64_w,i32_w];rfl)
     refine pure_ (i:=8) (N:=some 11) (v:=?_) (a':=?_) #[true,true,true,true,true,true,true,true,true,false] rfl rfl (any_of HT_.out (by kernel_rfl)) (fun _ _ _ h => h) (Or.inl ⟨by rfl,?_⟩) ?_ ?_
     rotate_left;(intro w';go_simp;with_reducible rfl);rotate_left;(simp only [Act.put,List.setIfInBounds_toArray,List.set_cons_zero,List.set_cons_succ,i64_w,i32_w];rfl)
     refine pure_ (i:=9) (N:=some 12) (v:=?_) (a':=?_) #[true,true,true,true,true,true,true,true,true,true] rfl rfl (any_of HT_.out (by kernel_rfl)) (fun _ _ _ h => h) (Or.inl ⟨by rfl,?_⟩) ?_ ?_
     rotate_left;(intro w';go_simp;with_reducible rfl);rotate_left;(simp only [Act.put,List.setIfInBounds_toArray,List.set_cons_zero,List.set_cons_succ,i64_w,i32_w];rfl)
     refine done_ (done_of HT_.out (by kernel_rfl)) ?_
     obtain ⟨Ao75,co75,eo75⟩:=Kd.S_slice HO227.out
     subst eo75
     obtain ⟨Ao76,co76,eo76⟩:=Kd.R_slice HO_8.out
     subst eo76
     obtain ⟨Ao77,co77,eo77⟩:=Kd.R_slice HO_9.out
     subst eo77
     have p229 : 0 ≤ (50 : Int):=(by omega)
     have q229 : 50 < (t225.length : Int):=of_decide_eq_true (by first|(with_reducible assumption)|assumption)
     obtain ⟨ad229,A229_0,c229_0,e229,hx229_0,hx229_1,hx229_2,hl229_0,hi229_0⟩:=at_T32 (Kd.S_reads' HO227.out).2.2 50 p229 q229
     cases e229
     obtain ⟨ce229,hce229,hMe229,hcc229⟩:=Kd.S_get HO227.out z32 50 p229 (by first|exact q229|exact of_decide_eq_true (by first|(with_reducible assumption)|assumption)|(have e_:=(Kd.S_reads' HO227.out).1;omega))
     obtain ⟨ve229_0,rfl,ge229_0⟩:=k32_openM hMe229
     have hv229_0:=hcc229 0 _ rfl
     rw [Nat.add_zero] at hv229_0
     replace hv229_0:=Option.some.inj (hv229_0.symm.trans hx229_0)
     rw [hv229_0] at ge229_0
     have HL229_0:=Aside0.mk (show Kd.R k62 62 _ _ _ _ ((rd_T32 t225 50).f0) from ge229_0)
     clear hv229_0 ge229_0
     clear hcc229 hce229
     (try simp only [show (50 : Int).toNat = 50 from rfl,Nat.reduceMul,Nat.reduceEqDiff,Go.Addr.add,↓reduceIte] at hx229_0)
     (try simp only [show (50 : Int).toNat = 50 from rfl,Nat.reduceMul,Nat.reduceEqDiff,Go.Addr.add,↓reduceIte] at hx229_1)
     (try simp only [show (50 : Int).toNat = 50 from rfl,Nat.reduceMul,Nat.reduceEqDiff,Go.Addr.add,↓reduceIte] at hx229_2)
     have qi229 : (50 < t225.length) = True:=eq_true (by omega)
     (try rw [show ((50 : Int)).toNat = 50 from rfl] at hx229_0)
     (try rw [show 50 * 3 = 150 from rfl] at hx229_0)
     (try rw [show ((50 : Int)).toNat = 50 from rfl] at hx229_1)
     (try rw [show 50 * 3 = 150 from rfl] at hx229_1)
     (try rw [show ((50 : Int)).toNat = 50 from rfl] at hx229_2)
     (try rw [show 50 * 3 = 150 from rfl] at hx229_2)
     have HR229_0:=Aside0.mk hi229_0
     have HC229_0:=Aside0.mk hl229_0
     clear hi229_0 hl229_0
     replace p229:=eq_true p229
     replace q229:=eq_true q229
     try go_wp2_with (first|((with_reducible refine gate_callee (f:=22) rfl ?_);refine goesL_ (some 92) rfl rfl Try.func22 (by kernel_rfl) rfl #[.agg #[.slice A229_0 ((rd_T32 t225 50).f0).length c229_0,.int .i64 ((rd_T32 t225 50).f1),.int .i64 ((rd_T32 t225 50).f2)]] rfl (by (try simp only [List.map_toArray,List.map_cons,List.map_nil]);first|done|rfl|(simp only [List.length_drop,List.length_take];rfl)) ?_;(with_reducible refine (leadlag_Running.calls k2 _ _ ((rd_T32 t225 50).f0) ((rd_T32 t225 50).f1) ((rd_T32 t225 50).f2) t230 _ ?side1 ?side2 A48.out).mono ?_);(case side1 => repeat (first|exact (by repeat (first|(with_reducible exact HR229_0.out)|(with_reducible refine Kd.C_alloc ?_ _)|(with_reducible refine Kd.C_drewN ?_ _)|(with_reducible refine Kd.C_drew ?_)|exact HR229_0.out))|(with_reducible refine Kd.C_alloc ?_ _)|(with_reducible refine Kd.C_drewN ?_ _)|(with_reducible refine Kd.C_drew ?_)));(case side2 => exact HC229_0.out);rintro e w78 ⟨v231,rfl,ho0,hb⟩;refine ⟨_,rfl,?_⟩;have n0_:=Aside0.mk (Kd.R_elder' (by (with_reducible repeat (first|apply Kd.R_alloc|apply Kd.R_drewN|apply Kd.R_drew));exact HO_4.out) (Kd.R_base ho0) hb);have n1_:=Aside0.mk (Kd.S_below (by (with_reducible repeat (first|apply Kd.S_alloc|apply Kd.S_drewN|apply Kd.S_drew));exact HO_6.out) hb);have n2_:=Aside0.mk (Kd.R_elder' (by (with_reducible repeat (first|apply Kd.R_alloc|apply Kd.R_drewN|apply Kd.R_drew));exact HO_8.out) (Kd.R_base ho0) hb);have n3_:=Aside0.mk (Kd.R_elder' (by (with_reducible repeat (first|apply Kd.R_alloc|apply Kd.R_drewN|apply Kd.R_drew));exact HO_9.out) (Kd.R_base ho0) hb);have n4_:=Aside0.mk (Kd.R_below (by (with_reducible repeat (first|apply Kd.R_alloc|apply Kd.R_drewN|apply Kd.R_drew));exact HO_203000.out) hb);have n5_:=Aside0.mk (Kd.S_below (by (with_reducible repeat (first|apply Kd.S_alloc|apply Kd.S_drewN|apply Kd.S_drew));exact HO227.out) hb);have n6_:=Aside0.mk (Kd.R_below (by (with_reducible repeat (first|apply Kd.R_alloc|apply Kd.R_drewN|apply Kd.R_drew));exact HL229_0.out) hb);have n7_:=Aside0.mk (Kd.R_lower (Kd.R_new' (Kd.R_new' (Kd.R_new' ho0 (Kd.R_lt (by (with_reducible repeat (first|apply Kd.R_alloc|apply Kd.R_drewN|apply Kd.R_drew));exact HO_4.out))) (Kd.R_lt (by (with_reducible repeat (first|apply Kd.R_alloc|apply Kd.R_drewN|apply Kd.R_drew));exact HO_8.out))) (Kd.R_lt (by (with_reducible repeat (first|apply Kd.R_alloc|apply Kd.R_drewN|apply Kd.R_drew));exact HO_9.out))) (below_size (by repeat (first|(with_reducible first|exact HB.out|apply below_alloc|apply pw_below_drewN|apply below_drew1|refine below_set ?_ GE202.out|refine below_set ?_ GE203.out)|exact HB.out))));have n8_:=Aside0.mk (blk_below (g:=gb202) (o:=.cells #[.slice Ao5 t196.length co5,.int .i64 t199,.int .i64 t200] 32 (0,0)) (by (with_reducible repeat (first|refine blk_drewN ?_ _|refine blk_drew ?_|refine blk_alloc ?_ _));exact BK202.out) hb);have n9_:=Aside0.mk (blk_below (g:=gb203) (o:=.cells #[.int .i64 100,.int .i64 10] 43 (0,0)) (by (with_reducible repeat (first|refine blk_drewN ?_ _|refine blk_drew ?_|refine blk_alloc ?_ _));exact BK203.out) hb);have n10_:=Aside0.mk (Kd.C_below (by repeat (first|(with_reducible exact HR224.out)|(with_reducible refine Kd.C_alloc ?_ _)|(with_reducible refine Kd.C_drewN ?_ _)|(with_reducible refine Kd.C_drew ?_)|exact HR224.out)) hb);have n11_:=Aside0.mk (Kd.C_below (by repeat (first|(with_reducible exact HR229_0.out)|(with_reducible refine Kd.C_alloc ?_ _)|(with_reducible refine Kd.C_drewN ?_ _)|(with_reducible refine Kd.C_drew ?_)|exact HR229_0.out)) hb);have n12_:=Aside0.mk (below_step (by repeat (first|(with_reducible first|exact HB.out|apply below_alloc|apply pw_below_drewN|apply below_drew1|refine below_set ?_ GE202.out|refine below_set ?_ GE203.out)|exact HB.out)) hb);clear HO_4;clear HO_6;clear HO_8;clear HO_9;clear HO_203000;clear HO227;clear HL229_0;clear BK202;clear BK203;clear HR224;clear HR229_0;clear HB;have HO_4:=n0_;have HO_6:=n1_;have HO_8:=n2_;have HO_9:=n3_;have HO_203000:=n4_;have HO227:=n5_;have HL229_0:=n6_;have HO232:=n7_;have BK202:=n8_;have BK203:=n9_;have HR224:=n10_;have HR229_0:=n11_;have HB:=n12_;clear n0_ n1_ n2_ n3_ n4_ n5_ n6_ n7_ n8_ n9_ n10_ n11_ n12_;(try clear hb);(try clear hb2);(try clear hk);(try clear hi);(try clear ho0);have p233 : 0 ≤ (50 : Int):=(by omega);have q233 : 50 < (t225.length : Int):=of_decide_eq_true (by first|(with_reducible assumption)|assumption);obtain ⟨ad233,A233_0,c233_0,e233,hx233_0,hx233_1,hx233_2,hl233_0,hi233_0⟩:=at_T32 (Kd.S_reads' HO227.out).2.2 50 p233 q233;obtain rfl : ad229 = ad233:=(by injection e233);obtain ⟨ce233,hce233,hMe233,hcc233⟩:=Kd.S_get HO227.out z32 50 p233 (by first|exact q233|exact of_decide_eq_true (by first|(with_reducible assumption)|assumption)|(have e_:=(Kd.S_reads' HO227.out).1;omega));obtain ⟨ve233_0,rfl,ge233_0⟩:=k32_openM hMe233;have hv233_0:=hcc233 0 _ rfl;rw [Nat.add_zero] at hv233_0;replace hv233_0:=Option.some.inj (hv233_0.symm.trans hx233_0);rw [hv233_0] at ge233_0;have HL233_0:=Aside0.mk (show Kd.R k62 62 _ _ _ _ ((rd_T32 t225 50).f0) from ge233_0);clear hv233_0 ge233_0;clear hcc233 hce233;(try simp only [show (50 : Int).toNat = 50 from rfl,Nat.reduceMul,Nat.reduceEqDiff,Go.Addr.add,↓reduceIte] at hx233_0);(try simp only [show (50 : Int).toNat = 50 from rfl,Nat.reduceMul,Nat.reduceEqDiff,Go.Addr.add,↓reduceIte] at hx233_1);(try simp only [show (50 : Int).toNat = 50 from rfl,Nat.reduceMul,Nat.reduceEqDiff,Go.Addr.add,↓reduceIte] at hx233_2);have qi233 : (50 < t225.length) = True:=eq_true (by omega);(try rw [show ((50 : Int)).toNat = 50 from rfl] at hx233_0);(try rw [show 50 * 3 = 150 from rfl] at hx233_0);(try rw [show ((50 : Int)).toNat = 50 from rfl] at hx233_1);(try rw [show 50 * 3 = 150 from rfl] at hx233_1);(try rw [show ((50 : Int)).toNat = 50 from rfl] at hx233_2);(try rw [show 50 * 3 = 150 from rfl] at hx233_2);have HR233_0:=Aside0.mk hi233_0;have HC233_0:=Aside0.mk hl233_0;clear hi233_0 hl233_0;replace p233:=eq_true p233;replace q233:=eq_true q233)|((with_reducible refine gate_callee (f:=12) rfl ?_);refine goesL_ (some 97) rfl rfl Try.func12 (by kernel_rfl) rfl #[.agg #[.slice A233_0 ((rd_T32 t225 50).f0).length c233_0,.int .i64 ((rd_T32 t225 50).f1),.int .i64 ((rd_T32 t225 50).f2)]] rfl (by (try simp only [List.map_toArray,List.map_cons,List.map_nil]);first|done|rfl|(simp only [List.length_drop,List.length_take];rfl)) ?_;(with_reducible refine (leadlag_Spread.calls k2 _ _ ((rd_T32 t225 50).f0) ((rd_T32 t225 50).f1) ((rd_T32 t225 50).f2) t234 t235 _ ?side1 ?side2 A49.out).mono ?_);(case side1 => repeat (first|exact (by repeat (first|(with_reducible exact HR233_0.out)|(with_reducible refine Kd.C_alloc ?_ _)|(with_reducible refine Kd.C_drewN ?_ _)|(with_reducible refine Kd.C_drew ?_)|exact HR233_0.out))|(with_reducible refine Kd.C_alloc ?_ _)|(with_reducible refine Kd.C_drewN ?_ _)|(with_reducible refine Kd.C_drew ?_)));(case side2 => exact HC233_0.out);rintro e w79 ⟨rfl,hb⟩;refine ⟨_,rfl,?_⟩;have n0_:=Aside0.mk (Kd.R_below (by (with_reducible repeat (first|apply Kd.R_alloc|apply Kd.R_drewN|apply Kd.R_drew));exact HO_4.out) hb);have n1_:=Aside0.mk (Kd.S_below (by (with_reducible repeat (first|apply Kd.S_alloc|apply Kd.S_drewN|apply Kd.S_drew));exact HO_6.out) hb);have n2_:=Aside0.mk (Kd.R_below (by (with_reducible repeat (first|apply Kd.R_alloc|apply Kd.R_drewN|apply Kd.R_drew));exact HO_8.out) hb);have n3_:=Aside0.mk (Kd.R_below (by (with_reducible repeat (first|apply Kd.R_alloc|apply Kd.R_drewN|apply Kd.R_drew));exact HO_9.out) hb);have n4_:=Aside0.mk (Kd.R_below (by (with_reducible repeat (first|apply Kd.R_alloc|apply Kd.R_drewN|apply Kd.R_drew));exact HO_203000.out) hb);have n5_:=Aside0.mk (Kd.S_below (by (with_reducible repeat (first|apply Kd.S_alloc|apply Kd.S_drewN|apply Kd.S_drew));exact HO227.out) hb);have n6_:=Aside0.mk (Kd.R_below (by (with_reducible repeat (first|apply Kd.R_alloc|apply Kd.R_drewN|apply Kd.R_drew));exact HL229_0.out) hb);have n7_:=Aside0.mk (Kd.R_below (by (with_reducible repeat (first|apply Kd.R_alloc|apply Kd.R_drewN|apply Kd.R_drew));exact HO232.out) hb);have n8_:=Aside0.mk (Kd.R_below (by (with_reducible repeat (first|apply Kd.R_alloc|apply Kd.R_drewN|apply Kd.R_drew));exact HL233_0.out) hb);have n9_:=Aside0.mk (blk_below (g:=gb202) (o:=.cells #[.slice Ao5 t196.length co5,.int .i64 t199,.int .i64 t200] 32 (0,0)) (by (with_reducible repeat (first|refine blk_drewN ?_ _|refine blk_drew ?_|refine blk_alloc ?_ _));exact BK202.out) hb);have n10_:=Aside0.mk (blk_below (g:=gb203) (o:=.cells #[.int .i64 100,.int .i64 10] 43 (0,0)) (by (with_reducible repeat (first|refine blk_drewN ?_ _|refine blk_drew ?_|refine blk_alloc ?_ _));exact BK203.out) hb);have n11_:=Aside0.mk (Kd.C_below (by repeat (first|(with_reducible exact HR224.out)|(with_reducible refine Kd.C_alloc ?_ _)|(with_reducible refine Kd.C_drewN ?_ _)|(with_reducible refine Kd.C_drew ?_)|exact HR224.out)) hb);have n12_:=Aside0.mk (Kd.C_below (by repeat (first|(with_reducible exact HR229_0.out)|(with_reducible refine Kd.C_alloc ?_ _)|(with_reducible refine Kd.C_drewN ?_ _)|(with_reducible refine Kd.C_drew ?_)|exact HR229_0.out)) hb);have n13_:=Aside0.mk (Kd.C_below (by repeat (first|(with_reducible exact HR233_0.out)|(with_reducible refine Kd.C_alloc ?_ _)|(with_reducible refine Kd.C_drewN ?_ _)|(with_reducible refine Kd.C_drew ?_)|exact HR233_0.out)) hb);have n14_:=Aside0.mk (below_step (by repeat (first|(with_reducible first|exact HB.out|apply below_alloc|apply pw_below_drewN|apply below_drew1|refine below_set ?_ GE202.out|refine below_set ?_ GE203.out)|exact HB.out)) hb);clear HO_4;clear HO_6;clear HO_8;clear HO_9;clear HO_203000;clear HO227;clear HL229_0;clear HO232;clear HL233_0;clear BK202;clear BK203;clear HR224;clear HR229_0;clear HR233_0;clear HB;have HO_4:=n0_;have HO_6:=n1_;have HO_8:=n2_;have HO_9:=n3_;have HO_203000:=n4_;have HO227:=n5_;have HL229_0:=n6_;have HO232:=n7_;have HL233_0:=n8_;have BK202:=n9_;have BK203:=n10_;have HR224:=n11_;have HR229_0:=n12_;have HR233_0:=n13_;have HB:=n14_;clear n0_ n1_ n2_ n3_ n4_ n5_ n6_ n7_ n8_ n9_ n10_ n11_ n12_ n13_ n14_;(try clear hb);(try clear hb2);(try clear hk);(try clear hi);have p236 : 0 ≤ (0 : Int):=(by omega);have q236 : 0 < (t213.length : Int):=of_decide_eq_true (by first|(with_reducible assumption)|assumption);obtain ⟨ad236,e236,hx236_0⟩:=Kd.at_int (Kd.R_reads' HO_8.out).2.2 0 p236 q236;cases e236;have qi236 : (0 < t213.length) = True:=eq_true (by omega);(try rw [show ((0 : Int)).toNat = 0 from rfl] at hx236_0);(try rw [Addr.add_zero'] at hx236_0);replace p236:=eq_true p236;replace q236:=eq_true q236;have p237 : 0 ≤ (0 : Int):=(by omega);have q237 : 0 < (t217.length : Int):=of_decide_eq_true (by first|(with_reducible assumption)|assumption);obtain ⟨ad237,e237,hx237_0⟩:=Kd.at_int (Kd.R_reads' HO_9.out).2.2 0 p237 q237;cases e237;have qi237 : (0 < t217.length) = True:=eq_true (by omega);(try rw [show ((0 : Int)).toNat = 0 from rfl] at hx237_0);(try rw [Addr.add_zero'] at hx237_0);replace p237:=eq_true p237;replace q237:=eq_true q237;have p238 : 0 ≤ (100 : Int):=(by omega);have q238 : 100 < (t208.length : Int):=of_decide_eq_true (by first|(with_reducible assumption)|assumption);obtain ⟨ad238,A238_0,c238_0,e238,hx238_0,hx238_1,hx238_2,hl238_0,hi238_0⟩:=at_T32 (Kd.S_reads' HO_6.out).2.2 100 p238 q238;obtain rfl : ad212 = ad238:=(by injection e238);obtain ⟨ce238,hce238,hMe238,hcc238⟩:=Kd.S_get HO_6.out z32 100 p238 (by first|exact q238|exact of_decide_eq_true (by first|(with_reducible assumption)|assumption)|(have e_:=(Kd.S_reads' HO_6.out).1;omega));obtain ⟨ve238_0,rfl,ge238_0⟩:=k32_openM hMe238;have hv238_0:=hcc238 0 _ rfl;rw [Nat.add_zero] at hv238_0;replace hv238_0:=Option.some.inj (hv238_0.symm.trans hx238_0);rw [hv238_0] at ge238_0;have HL238_0:=Aside0.mk (show Kd.R k62 62 _ _ _ _ ((rd_T32 t208 100).f0) from ge238_0);clear hv238_0 ge238_0;clear hcc238 hce238;(try simp only [show (100 : Int).toNat = 100 from rfl,Nat.reduceMul,Nat.reduceEqDiff,Go.Addr.add,↓reduceIte] at hx238_0);(try simp only [show (100 : Int).toNat = 100 from rfl,Nat.reduceMul,Nat.reduceEqDiff,Go.Addr.add,↓reduceIte] at hx238_1);(try simp only [show (100 : Int).toNat = 100 from rfl,Nat.reduceMul,Nat.reduceEqDiff,Go.Addr.add,↓reduceIte] at hx238_2);have qi238 : (100 < t208.length) = True:=eq_true (by omega);(try rw [show ((100 : Int)).toNat = 100 from rfl] at hx238_0);(try rw [show 100 * 3 = 300 from rfl] at hx238_0);(try rw [show ((100 : Int)).toNat = 100 from rfl] at hx238_1);(try rw [show 100 * 3 = 300 from rfl] at hx238_1);(try rw [show ((100 : Int)).toNat = 100 from rfl] at hx238_2);(try rw [show 100 * 3 = 300 from rfl] at hx238_2);have HR238_0:=Aside0.mk hi238_0;have HC238_0:=Aside0.mk hl238_0;clear hi238_0 hl238_0;replace p238:=eq_true p238;replace q238:=eq_true q238;have p239 : 0 ≤ (0 : Int):=(by omega);have q239 : 0 < (((rd_T32 t208 100).f0).length : Int):=of_decide_eq_true (by first|(with_reducible assumption)|assumption);obtain ⟨ad239,e239,hx239_0,hx239_1,hx239_2⟩:=at_T62 (by repeat (first|(with_reducible exact HR238_0.out)|(with_reducible refine Kd.C_alloc ?_ _)|(with_reducible refine Kd.C_drewN ?_ _)|(with_reducible refine Kd.C_drew ?_)|exact HR238_0.out)) 0 p239 q239;cases e239;have qi239 : (0 < ((rd_T32 t208 100).f0).length) = True:=eq_true (by omega);(try rw [show ((0 : Int)).toNat = 0 from rfl] at hx239_0);(try rw [show 0 * 3 = 0 from rfl] at hx239_0);(try rw [Addr.add_zero'] at hx239_0);(try rw [show ((0 : Int)).toNat = 0 from rfl] at hx239_1);(try rw [show 0 * 3 = 0 from rfl] at hx239_1);(try rw [Addr.add_zero'] at hx239_1);(try rw [show ((0 : Int)).toNat = 0 from rfl] at hx239_2);(try rw [show 0 * 3 = 0 from rfl] at hx239_2);(try rw [Addr.add_zero'] at hx239_2);replace p239:=eq_true p239;replace q239:=eq_true q239;obtain ⟨Ao80,co80,eo80⟩:=Kd.R_slice HO232.out;subst eo80;have p240 : 0 ≤ (0 : Int):=(by omega);have q240 : 0 < (t230.length : Int):=of_decide_eq_true (by first|(with_reducible assumption)|assumption);obtain ⟨ad240,e240,hx240_0⟩:=Kd.at_int (Kd.R_reads' HO232.out).2.2 0 p240 q240;cases e240;have qi240 : (0 < t230.length) = True:=eq_true (by omega);(try rw [show ((0 : Int)).toNat = 0 from rfl] at hx240_0);(try rw [Addr.add_zero'] at hx240_0);replace p240:=eq_true p240;replace q240:=eq_true q240;have p241 : 0 ≤ (5 : Int):=(by omega);have q241 : 5 < (t225.length : Int):=of_decide_eq_true (by first|(with_reducible assumption)|assumption);obtain ⟨ad241,A241_0,c241_0,e241,hx241_0,hx241_1,hx241_2,hl241_0,hi241_0⟩:=at_T32 (Kd.S_reads' HO227.out).2.2 5 p241 q241;obtain rfl : ad229 = ad241:=(by injection e241);obtain ⟨ce241,hce241,hMe241,hcc241⟩:=Kd.S_get HO227.out z32 5 p241 (by first|exact q241|exact of_decide_eq_true (by first|(with_reducible assumption)|assumption)|(have e_:=(Kd.S_reads' HO227.out).1;omega));obtain ⟨ve241_0,rfl,ge241_0⟩:=k32_openM hMe241;have hv241_0:=hcc241 0 _ rfl;rw [Nat.add_zero] at hv241_0;replace hv241_0:=Option.some.inj (hv241_0.symm.trans hx241_0);rw [hv241_0] at ge241_0;have HL241_0:=Aside0.mk (show Kd.R k62 62 _ _ _ _ ((rd_T32 t225 5).f0) from ge241_0);clear hv241_0 ge241_0;clear hcc241 hce241;(try simp only [show (5 : Int).toNat = 5 from rfl,Nat.reduceMul,Nat.reduceEqDiff,Go.Addr.add,↓reduceIte] at hx241_0);(try simp only [show (5 : Int).toNat = 5 from rfl,Nat.reduceMul,Nat.reduceEqDiff,Go.Addr.add,↓reduceIte] at hx241_1);(try simp only [show (5 : Int).toNat = 5 from rfl,Nat.reduceMul,Nat.reduceEqDiff,Go.Addr.add,↓reduceIte] at hx241_2);have qi241 : (5 < t225.length) = True:=eq_true (by omega);(try rw [show ((5 : Int)).toNat = 5 from rfl] at hx241_0);(try rw [show 5 * 3 = 15 from rfl] at hx241_0);(try rw [show ((5 : Int)).toNat = 5 from rfl] at hx241_1);(try rw [show 5 * 3 = 15 from rfl] at hx241_1);(try rw [show ((5 : Int)).toNat = 5 from rfl] at hx241_2);(try rw [show 5 * 3 = 15 from rfl] at hx241_2);have HR241_0:=Aside0.mk hi241_0;have HC241_0:=Aside0.mk hl241_0;clear hi241_0 hl241_0;replace p241:=eq_true p241;replace q241:=eq_true q241)|(go_at_call 24;(with_reducible refine (leadlag_Short.calls k2 _ _ ((rd_T32 t225 5).f0) ((rd_T32 t225 5).f1) ((rd_T32 t225 5).f2) 2 t242 _ ?side1 ?side2 A63.out).mono ?_);(case side1 => repeat (first|exact (by repeat (first|(with_reducible exact HR241_0.out)|(with_reducible refine Kd.C_alloc ?_ _)|(with_reducible refine Kd.C_drewN ?_ _)|(with_reducible refine Kd.C_drew ?_)|exact HR241_0.out))|(with_reducible refine Kd.C_alloc ?_ _)|(with_reducible refine Kd.C_drewN ?_ _)|(with_reducible refine Kd.C_drew ?_)));(case side2 => exact HC241_0.out);rintro e w81 ⟨rfl,hb⟩;have n0_:=Aside0.mk (Kd.R_below (by (with_reducible repeat (first|apply Kd.R_alloc|apply Kd.R_drewN|apply Kd.R_drew));exact HO_4.out) hb);have n1_:=Aside0.mk (Kd.S_below (by (with_reducible repeat (first|apply Kd.S_alloc|apply Kd.S_drewN|apply Kd.S_drew));exact HO_6.out) hb);have n2_:=Aside0.mk (Kd.R_below (by (with_reducible repeat (first|apply Kd.R_alloc|apply Kd.R_drewN|apply Kd.R_drew));exact HO_8.out) hb);have n3_:=Aside0.mk (Kd.R_below (by (with_reducible repeat (first|apply Kd.R_alloc|apply Kd.R_drewN|apply Kd.R_drew));exact HO_9.out) hb);have n4_:=Aside0.mk (Kd.R_below (by (with_reducible repeat (first|apply Kd.R_alloc|apply Kd.R_drewN|apply Kd.R_drew));exact HO_203000.out) hb);have n5_:=Aside0.mk (Kd.S_below (by (with_reducible repeat (first|apply Kd.S_alloc|apply Kd.S_drewN|apply Kd.S_drew));exact HO227.out) hb);have n6_:=Aside0.mk (Kd.R_below (by (with_reducible repeat (first|apply Kd.R_alloc|apply Kd.R_drewN|apply Kd.R_drew));exact HL229_0.out) hb);have n7_:=Aside0.mk (Kd.R_below (by (with_reducible repeat (first|apply Kd.R_alloc|apply Kd.R_drewN|apply Kd.R_drew));exact HO232.out) hb);have n8_:=Aside0.mk (Kd.R_below (by (with_reducible repeat (first|apply Kd.R_alloc|apply Kd.R_drewN|apply Kd.R_drew));exact HL233_0.out) hb);have n9_:=Aside0.mk (Kd.R_below (by (with_reducible repeat (first|apply Kd.R_alloc|apply Kd.R_drewN|apply Kd.R_drew));exact HL238_0.out) hb);have n10_:=Aside0.mk (Kd.R_below (by (with_reducible repeat (first|apply Kd.R_alloc|apply Kd.R_drewN|apply Kd.R_drew));exact HL241_0.out) hb);have n11_:=Aside0.mk (blk_below (g:=gb202) (o:=.cells #[.slice Ao5 t196.length co5,.int .i64 t199,.int .i64 t200] 32 (0,0)) (by (with_reducible repeat (first|refine blk_drewN ?_ _|refine blk_drew ?_|refine blk_alloc ?_ _));exact BK202.out) hb);have n12_:=Aside0.mk (blk_below (g:=gb203) (o:=.cells #[.int .i64 100,.int .i64 10] 43 (0,0)) (by (with_reducible repeat (first|refine blk_drewN ?_ _|refine blk_drew ?_|refine blk_alloc ?_ _));exact BK203.out) hb);have n13_:=Aside0.mk (Kd.C_below (by repeat (first|(with_reducible exact HR224.out)|(with_reducible refine Kd.C_alloc ?_ _)|(with_reducible refine Kd.C_drewN ?_ _)|(with_reducible refine Kd.C_drew ?_)|exact HR224.out)) hb);have n14_:=Aside0.mk (Kd.C_below (by repeat (first|(with_reducible exact HR229_0.out)|(with_reducible refine Kd.C_alloc ?_ _)|(with_reducible refine Kd.C_drewN ?_ _)|(with_reducible refine Kd.C_drew ?_)|exact HR229_0.out)) hb);have n15_:=Aside0.mk (Kd.C_below (by repeat (first|(with_reducible exact HR233_0.out)|(with_reducible refine Kd.C_alloc ?_ _)|(with_reducible refine Kd.C_drewN ?_ _)|(with_reducible refine Kd.C_drew ?_)|exact HR233_0.out)) hb);have n16_:=Aside0.mk (Kd.C_below (by repeat (first|(with_reducible exact HR238_0.out)|(with_reducible refine Kd.C_alloc ?_ _)|(with_reducible refine Kd.C_drewN ?_ _)|(with_reducible refine Kd.C_drew ?_)|exact HR238_0.out)) hb);have n17_:=Aside0.mk (Kd.C_below (by repeat (first|(with_reducible exact HR241_0.out)|(with_reducible refine Kd.C_alloc ?_ _)|(with_reducible refine Kd.C_drewN ?_ _)|(with_reducible refine Kd.C_drew ?_)|exact HR241_0.out)) hb);have n18_:=Aside0.mk (below_step (by repeat (first|(with_reducible first|exact HB.out|apply below_alloc|apply pw_below_drewN|apply below_drew1|refine below_set ?_ GE202.out|refine below_set ?_ GE203.out)|exact HB.out)) hb);clear HO_4;clear HO_6;clear HO_8;clear HO_9;clear HO_203000;clear HO227;clear HL229_0;clear HO232;clear HL233_0;clear HL238_0;clear HL241_0;clear BK202;clear BK203;clear HR224;clear HR229_0;clear HR233_0;clear HR238_0;clear HR241_0;clear HB;have HO_4:=n0_;have HO_6:=n1_;have HO_8:=n2_;have HO_9:=n3_;have HO_203000:=n4_;have HO227:=n5_;have HL229_0:=n6_;have HO232:=n7_;have HL233_0:=n8_;have HL238_0:=n9_;have HL241_0:=n10_;have BK202:=n11_;have BK203:=n12_;have HR224:=n13_;have HR229_0:=n14_;have HR233_0:=n15_;have HR238_0:=n16_;have HR241_0:=n17_;have HB:=n18_;clear n0_ n1_ n2_ n3_ n4_ n5_ n6_ n7_ n8_ n9_ n10_ n11_ n12_ n13_ n14_ n15_ n16_ n17_ n18_;(try clear hb);(try clear hb2);(try clear hk);(try clear hi);have p243 : 0 ≤ (10 : Int):=(by omega);have q243 : 10 < (t225.length : Int):=of_decide_eq_true (by first|(with_reducible assumption)|assumption);obtain ⟨ad243,A243_0,c243_0,e243,hx243_0,hx243_1,hx243_2,hl243_0,hi243_0⟩:=at_T32 (Kd.S_reads' HO227.out).2.2 10 p243 q243;obtain rfl : ad229 = ad243:=(by injection e243);obtain ⟨ce243,hce243,hMe243,hcc243⟩:=Kd.S_get HO227.out z32 10 p243 (by first|exact q243|exact of_decide_eq_true (by first|(with_reducible assumption)|assumption)|(have e_:=(Kd.S_reads' HO227.out).1;omega));obtain ⟨ve243_0,rfl,ge243_0⟩:=k32_openM hMe243;have hv243_0:=hcc243 0 _ rfl;rw [Nat.add_zero] at hv243_0;replace hv243_0:=Option.some.inj (hv243_0.symm.trans hx243_0);rw [hv243_0] at ge243_0;have HL243_0:=Aside0.mk (show Kd.R k62 62 _ _ _ _ ((rd_T32 t225 10).f0) from ge243_0);clear hv243_0 ge243_0;clear hcc243 hce243;(try simp only [show (10 : Int).toNat = 10 from rfl,Nat.reduceMul,Nat.reduceEqDiff,Go.Addr.add,↓reduceIte] at hx243_0);(try simp only [show (10 : Int).toNat = 10 from rfl,Nat.reduceMul,Nat.reduceEqDiff,Go.Addr.add,↓reduceIte] at hx243_1);(try simp only [show (10 : Int).toNat = 10 from rfl,Nat.reduceMul,Nat.reduceEqDiff,Go.Addr.add,↓reduceIte] at hx243_2);have qi243 : (10 < t225.length) = True:=eq_true (by omega);(try rw [show ((10 : Int)).toNat = 10 from rfl] at hx243_0);(try rw [show 10 * 3 = 30 from rfl] at hx243_0);(try rw [show ((10 : Int)).toNat = 10 from rfl] at hx243_1);(try rw [show 10 * 3 = 30 from rfl] at hx243_1);(try rw [show ((10 : Int)).toNat = 10 from rfl] at hx243_2);(try rw [show 10 * 3 = 30 from rfl] at hx243_2);have HR243_0:=Aside0.mk hi243_0;have HC243_0:=Aside0.mk hl243_0;clear hi243_0 hl243_0;replace p243:=eq_true p243;replace q243:=eq_true q243)|(go_at_call 22;(with_reducible refine (leadlag_Running.calls k2 _ _ ((rd_T32 t225 10).f0) ((rd_T32 t225 10).f1) ((rd_T32 t225 10).f2) t244 _ ?side1 ?side2 A66.out).mono ?_);(case side1 => repeat (first|exact (by repeat (first|(with_reducible exact HR243_0.out)|(with_reducible refine Kd.C_alloc ?_ _)|(with_reducible refine Kd.C_drewN ?_ _)|(with_reducible refine Kd.C_drew ?_)|exact HR243_0.out))|(with_reducible refine Kd.C_alloc ?_ _)|(with_reducible refine Kd.C_drewN ?_ _)|(with_reducible refine Kd.C_drew ?_)));(case side2 => exact HC243_0.out);rintro e w82 ⟨v245,rfl,ho0,hb⟩;have n0_:=Aside0.mk (Kd.R_elder' (by (with_reducible repeat (first|apply Kd.R_alloc|apply Kd.R_drewN|apply Kd.R_drew));exact HO_4.out) (Kd.R_base ho0) hb);have n1_:=Aside0.mk (Kd.S_below (by (with_reducible repeat (first|apply Kd.S_alloc|apply Kd.S_drewN|apply Kd.S_drew));exact HO_6.out) hb);have n2_:=Aside0.mk (Kd.R_elder' (by (with_reducible repeat (first|apply Kd.R_alloc|apply Kd.R_drewN|apply Kd.R_drew));exact HO_8.out) (Kd.R_base ho0) hb);have n3_:=Aside0.mk (Kd.R_elder' (by (with_reducible repeat (first|apply Kd.R_alloc|apply Kd.R_drewN|apply Kd.R_drew));exact HO_9.out) (Kd.R_base ho0) hb);have n4_:=Aside0.mk (Kd.R_below (by (with_reducible repeat (first|apply Kd.R_alloc|apply Kd.R_drewN|apply Kd.R_drew));exact HO_203000.out) hb);have n5_:=Aside0.mk (Kd.S_below (by (with_reducible repeat (first|apply Kd.S_alloc|apply Kd.S_drewN|apply Kd.S_drew));exact HO227.out) hb);have n6_:=Aside0.mk (Kd.R_below (by (with_reducible repeat (first|apply Kd.R_alloc|apply Kd.R_drewN|apply Kd.R_drew));exact HL229_0.out) hb);have n7_:=Aside0.mk (Kd.R_elder' (by (with_reducible repeat (first|apply Kd.R_alloc|apply Kd.R_drewN|apply Kd.R_drew));exact HO232.out) (Kd.R_base ho0) hb);have n8_:=Aside0.mk (Kd.R_below (by (with_reducible repeat (first|apply Kd.R_alloc|apply Kd.R_drewN|apply Kd.R_drew));exact HL233_0.out) hb);have n9_:=Aside0.mk (Kd.R_below (by (with_reducible repeat (first|apply Kd.R_alloc|apply Kd.R_drewN|apply Kd.R_drew));exact HL238_0.out) hb);have n10_:=Aside0.mk (Kd.R_below (by (with_reducible repeat (first|apply Kd.R_alloc|apply Kd.R_drewN|apply Kd.R_drew));exact HL241_0.out) hb);have n11_:=Aside0.mk (Kd.R_below (by (with_reducible repeat (first|apply Kd.R_alloc|apply Kd.R_drewN|apply Kd.R_drew));exact HL243_0.out) hb);have n12_:=Aside0.mk (Kd.R_lower (Kd.R_new' (Kd.R_new' (Kd.R_new' (Kd.R_new' ho0 (Kd.R_lt (by (with_reducible repeat (first|apply Kd.R_alloc|apply Kd.R_drewN|apply Kd.R_drew));exact HO_4.out))) (Kd.R_lt (by (with_reducible repeat (first|apply Kd.R_alloc|apply Kd.R_drewN|apply Kd.R_drew));exact HO_8.out))) (Kd.R_lt (by (with_reducible repeat (first|apply Kd.R_alloc|apply Kd.R_drewN|apply Kd.R_drew));exact HO_9.out))) (Kd.R_lt (by (with_reducible repeat (first|apply Kd.R_alloc|apply Kd.R_drewN|apply Kd.R_drew));exact HO232.out))) (below_size (by repeat (first|(with_reducible first|exact HB.out|apply below_alloc|apply pw_below_drewN|apply below_drew1|refine below_set ?_ GE202.out|refine below_set ?_ GE203.out)|exact HB.out))));have n13_:=Aside0.mk (blk_below (g:=gb202) (o:=.cells #[.slice Ao5 t196.length co5,.int .i64 t199,.int .i64 t200] 32 (0,0)) (by (with_reducible repeat (first|refine blk_drewN ?_ _|refine blk_drew ?_|refine blk_alloc ?_ _));exact BK202.out) hb);have n14_:=Aside0.mk (blk_below (g:=gb203) (o:=.cells #[.int .i64 100,.int .i64 10] 43 (0,0)) (by (with_reducible repeat (first|refine blk_drewN ?_ _|refine blk_drew ?_|refine blk_alloc ?_ _));exact BK203.out) hb);have n15_:=Aside0.mk (Kd.C_below (by repeat (first|(with_reducible exact HR224.out)|(with_reducible refine Kd.C_alloc ?_ _)|(with_reducible refine Kd.C_drewN ?_ _)|(with_reducible refine Kd.C_drew ?_)|exact HR224.out)) hb);have n16_:=Aside0.mk (Kd.C_below (by repeat (first|(with_reducible exact HR229_0.out)|(with_reducible refine Kd.C_alloc ?_ _)|(with_reducible refine Kd.C_drewN ?_ _)|(with_reducible refine Kd.C_drew ?_)|exact HR229_0.out)) hb);have n17_:=Aside0.mk (Kd.C_below (by repeat (first|(with_reducible exact HR233_0.out)|(with_reducible refine Kd.C_alloc ?_ _)|(with_reducible refine Kd.C_drewN ?_ _)|(with_reducible refine Kd.C_drew ?_)|exact HR233_0.out)) hb);have n18_:=Aside0.mk (Kd.C_below (by repeat (first|(with_reducible exact HR238_0.out)|(with_reducible refine Kd.C_alloc ?_ _)|(with_reducible refine Kd.C_drewN ?_ _)|(with_reducible refine Kd.C_drew ?_)|exact HR238_0.out)) hb);have n19_:=Aside0.mk (Kd.C_below (by repeat (first|(with_reducible exact HR241_0.out)|(with_reducible refine Kd.C_alloc ?_ _)|(with_reducible refine Kd.C_drewN ?_ _)|(with_reducible refine Kd.C_drew ?_)|exact HR241_0.out)) hb);have n20_:=Aside0.mk (Kd.C_below (by repeat (first|(with_reducible exact HR243_0.out)|(with_reducible refine Kd.C_alloc ?_ _)|(with_reducible refine Kd.C_drewN ?_ _)|(with_reducible refine Kd.C_drew ?_)|exact HR243_0.out)) hb);have n21_:=Aside0.mk (below_step (by repeat (first|(with_reducible first|exact HB.out|apply below_alloc|apply pw_below_drewN|apply below_drew1|refine below_set ?_ GE202.out|refine below_set ?_ GE203.out)|exact HB.out)) hb);clear HO_4;clear HO_6;clear HO_8;clear HO_9;clear HO_203000;clear HO227;clear HL229_0;clear HO232;clear HL233_0;clear HL238_0;clear HL241_0;clear HL243_0;clear BK202;clear BK203;clear HR224;clear HR229_0;clear HR233_0;clear HR238_0;clear HR241_0;clear HR243_0;clear HB;have HO_4:=n0_;have HO_6:=n1_;have HO_8:=n2_;have HO_9:=n3_;have HO_203000:=n4_;have HO227:=n5_;have HL229_0:=n6_;have HO232:=n7_;have HL233_0:=n8_;have HL238_0:=n9_;have HL241_0:=n10_;have HL243_0:=n11_;have HO246:=n12_;have BK202:=n13_;have BK203:=n14_;have HR224:=n15_;have HR229_0:=n16_;have HR233_0:=n17_;have HR238_0:=n18_;have HR241_0:=n19_;have HR243_0:=n20_;have HB:=n21_;clear n0_ n1_ n2_ n3_ n4_ n5_ n6_ n7_ n8_ n9_ n10_ n11_ n12_ n13_ n14_ n15_ n16_ n17_ n18_ n19_ n20_ n21_;(try clear hb);(try clear hb2);(try clear hk);(try clear hi);(try clear ho0);obtain ⟨Ao83,co83,eo83⟩:=Kd.R_slice HO246.out;subst eo83;have p247 : 0 ≤ (50 : Int):=(by omega);have q247 : 50 < (t225.length : Int):=of_decide_eq_true (by first|(with_reducible assumption)|assumption);obtain ⟨ad247,A247_0,c247_0,e247,hx247_0,hx247_1,hx247_2,hl247_0,hi247_0⟩:=at_T32 (Kd.S_reads' HO227.out).2.2 50 p247 q247;obtain rfl : ad229 = ad247:=(by injection e247);obtain ⟨ce247,hce247,hMe247,hcc247⟩:=Kd.S_get HO227.out z32 50 p247 (by first|exact q247|exact of_decide_eq_true (by first|(with_reducible assumption)|assumption)|(have e_:=(Kd.S_reads' HO227.out).1;omega));obtain ⟨ve247_0,rfl,ge247_0⟩:=k32_openM hMe247;have hv247_0:=hcc247 0 _ rfl;rw [Nat.add_zero] at hv247_0;replace hv247_0:=Option.some.inj (hv247_0.symm.trans hx247_0);rw [hv247_0] at ge247_0;have HL247_0:=Aside0.mk (show Kd.R k62 62 _ _ _ _ ((rd_T32 t225 50).f0) from ge247_0);clear hv247_0 ge247_0;clear hcc247 hce247;(try simp only [show (50 : Int).toNat = 50 from rfl,Nat.reduceMul,Nat.reduceEqDiff,Go.Addr.add,↓reduceIte] at hx247_0);(try simp only [show (50 : Int).toNat = 50 from rfl,Nat.reduceMul,Nat.reduceEqDiff,Go.Addr.add,↓reduceIte] at hx247_1);(try simp only [show (50 : Int).toNat = 50 from rfl,Nat.reduceMul,Nat.reduceEqDiff,Go.Addr.add,↓reduceIte] at hx247_2);have qi247 : (50 < t225.length) = True:=eq_true (by omega);(try rw [show ((50 : Int)).toNat = 50 from rfl] at hx247_0);(try rw [show 50 * 3 = 150 from rfl] at hx247_0);(try rw [show ((50 : Int)).toNat = 50 from rfl] at hx247_1);(try rw [show 50 * 3 = 150 from rfl] at hx247_1);(try rw [show ((50 : Int)).toNat = 50 from rfl] at hx247_2);(try rw [show 50 * 3 = 150 from rfl] at hx247_2);have HR247_0:=Aside0.mk hi247_0;have HC247_0:=Aside0.mk hl247_0;clear hi247_0 hl247_0;replace p247:=eq_true p247;replace q247:=eq_true q247)|(go_at_call 20;(with_reducible refine (leadlag_Order.calls k2 _ _ ((rd_T32 t225 50).f0) ((rd_T32 t225 50).f1) ((rd_T32 t225 50).f2) t248 _ ?side1 ?side2 A68.out).mono ?_);(case side1 => repeat (first|exact (by repeat (first|(with_reducible exact HR247_0.out)|(with_reducible refine Kd.C_alloc ?_ _)|(with_reducible refine Kd.C_drewN ?_ _)|(with_reducible refine Kd.C_drew ?_)|exact HR247_0.out))|(with_reducible refine Kd.C_alloc ?_ _)|(with_reducible refine Kd.C_drewN ?_ _)|(with_reducible refine Kd.C_drew ?_)));(case side2 => exact HC247_0.out);rintro e w84 ⟨v249,rfl,ho0,hb⟩;have n0_:=Aside0.mk (Kd.R_elder' (by (with_reducible repeat (first|apply Kd.R_alloc|apply Kd.R_drewN|apply Kd.R_drew));exact HO_4.out) (Kd.R_base ho0) hb);have n1_:=Aside0.mk (Kd.S_below (by (with_reducible repeat (first|apply Kd.S_alloc|apply Kd.S_drewN|apply Kd.S_drew));exact HO_6.out) hb);have n2_:=Aside0.mk (Kd.R_elder' (by (with_reducible repeat (first|apply Kd.R_alloc|apply Kd.R_drewN|apply Kd.R_drew));exact HO_8.out) (Kd.R_base ho0) hb);have n3_:=Aside0.mk (Kd.R_elder' (by (with_reducible repeat (first|apply Kd.R_alloc|apply Kd.R_drewN|apply Kd.R_drew));exact HO_9.out) (Kd.R_base ho0) hb);have n4_:=Aside0.mk (Kd.R_below (by (with_reducible repeat (first|apply Kd.R_alloc|apply Kd.R_drewN|apply Kd.R_drew));exact HO_203000.out) hb);have n5_:=Aside0.mk (Kd.S_below (by (with_reducible repeat (first|apply Kd.S_alloc|apply Kd.S_drewN|apply Kd.S_drew));exact HO227.out) hb);have n6_:=Aside0.mk (Kd.R_below (by (with_reducible repeat (first|apply Kd.R_alloc|apply Kd.R_drewN|apply Kd.R_drew));exact HL229_0.out) hb);have n7_:=Aside0.mk (Kd.R_elder' (by (with_reducible repeat (first|apply Kd.R_alloc|apply Kd.R_drewN|apply Kd.R_drew));exact HO232.out) (Kd.R_base ho0) hb);have n8_:=Aside0.mk (Kd.R_below (by (with_reducible repeat (first|apply Kd.R_alloc|apply Kd.R_drewN|apply Kd.R_drew));exact HL233_0.out) hb);have n9_:=Aside0.mk (Kd.R_below (by (with_reducible repeat (first|apply Kd.R_alloc|apply Kd.R_drewN|apply Kd.R_drew));exact HL238_0.out) hb);have n10_:=Aside0.mk (Kd.R_below (by (with_reducible repeat (first|apply Kd.R_alloc|apply Kd.R_drewN|apply Kd.R_drew));exact HL241_0.out) hb);have n11_:=Aside0.mk (Kd.R_below (by (with_reducible repeat (first|apply Kd.R_alloc|apply Kd.R_drewN|apply Kd.R_drew));exact HL243_0.out) hb);have n12_:=Aside0.mk (Kd.R_elder' (by (with_reducible repeat (first|apply Kd.R_alloc|apply Kd.R_drewN|apply Kd.R_drew));exact HO246.out) (Kd.R_base ho0) hb);have n13_:=Aside0.mk (Kd.R_below (by (with_reducible repeat (first|apply Kd.R_alloc|apply Kd.R_drewN|apply Kd.R_drew));exact HL247_0.out) hb);have n14_:=Aside0.mk (Kd.R_lower (Kd.R_new' (Kd.R_new' (Kd.R_new' (Kd.R_new' (Kd.R_new' ho0 (Kd.R_lt (by (with_reducible repeat (first|apply Kd.R_alloc|apply Kd.R_drewN|apply Kd.R_drew));exact HO_4.out))) (Kd.R_lt (by (with_reducible repeat (first|apply Kd.R_alloc|apply Kd.R_drewN|apply Kd.R_drew));exact HO_8.out))) (Kd.R_lt (by (with_reducible repeat (first|apply Kd.R_alloc|apply Kd.R_drewN|apply Kd.R_drew));exact HO_9.out))) (Kd.R_lt (by (with_reducible repeat (first|apply Kd.R_alloc|apply Kd.R_drewN|apply Kd.R_drew));exact HO232.out))) (Kd.R_lt (by (with_reducible repeat (first|apply Kd.R_alloc|apply Kd.R_drewN|apply Kd.R_drew));exact HO246.out))) (below_size (by repeat (first|(with_reducible first|exact HB.out|apply below_alloc|apply pw_below_drewN|apply below_drew1|refine below_set ?_ GE202.out|refine below_set ?_ GE203.out)|exact HB.out))));have n15_:=Aside0.mk (blk_below (g:=gb202) (o:=.cells #[.slice Ao5 t196.length co5,.int .i64 t199,.int .i64 t200] 32 (0,0)) (by (with_reducible repeat (first|refine blk_drewN ?_ _|refine blk_drew ?_|refine blk_alloc ?_ _));exact BK202.out) hb);have n16_:=Aside0.mk (blk_below (g:=gb203) (o:=.cells #[.int .i64 100,.int .i64 10] 43 (0,0)) (by (with_reducible repeat (first|refine blk_drewN ?_ _|refine blk_drew ?_|refine blk_alloc ?_ _));exact BK203.out) hb);have n17_:=Aside0.mk (Kd.C_below (by repeat (first|(with_reducible exact HR224.out)|(with_reducible refine Kd.C_alloc ?_ _)|(with_reducible refine Kd.C_drewN ?_ _)|(with_reducible refine Kd.C_drew ?_)|exact HR224.out)) hb);have n18_:=Aside0.mk (Kd.C_below (by repeat (first|(with_reducible exact HR229_0.out)|(with_reducible refine Kd.C_alloc ?_ _)|(with_reducible refine Kd.C_drewN ?_ _)|(with_reducible refine Kd.C_drew ?_)|exact HR229_0.out)) hb);have n19_:=Aside0.mk (Kd.C_below (by repeat (first|(with_reducible exact HR233_0.out)|(with_reducible refine Kd.C_alloc ?_ _)|(with_reducible refine Kd.C_drewN ?_ _)|(with_reducible refine Kd.C_drew ?_)|exact HR233_0.out)) hb);have n20_:=Aside0.mk (Kd.C_below (by repeat (first|(with_reducible exact HR238_0.out)|(with_reducible refine Kd.C_alloc ?_ _)|(with_reducible refine Kd.C_drewN ?_ _)|(with_reducible refine Kd.C_drew ?_)|exact HR238_0.out)) hb);have n21_:=Aside0.mk (Kd.C_below (by repeat (first|(with_reducible exact HR241_0.out)|(with_reducible refine Kd.C_alloc ?_ _)|(with_reducible refine Kd.C_drewN ?_ _)|(with_reducible refine Kd.C_drew ?_)|exact HR241_0.out)) hb);have n22_:=Aside0.mk (Kd.C_below (by repeat (first|(with_reducible exact HR243_0.out)|(with_reducible refine Kd.C_alloc ?_ _)|(with_reducible refine Kd.C_drewN ?_ _)|(with_reducible refine Kd.C_drew ?_)|exact HR243_0.out)) hb);have n23_:=Aside0.mk (Kd.C_below (by repeat (first|(with_reducible exact HR247_0.out)|(with_reducible refine Kd.C_alloc ?_ _)|(with_reducible refine Kd.C_drewN ?_ _)|(with_reducible refine Kd.C_drew ?_)|exact HR247_0.out)) hb);have n24_:=Aside0.mk (below_step (by repeat (first|(with_reducible first|exact HB.out|apply below_alloc|apply pw_below_drewN|apply below_drew1|refine below_set ?_ GE202.out|refine below_set ?_ GE203.out)|exact HB.out)) hb);clear HO_4;clear HO_6;clear HO_8;clear HO_9;clear HO_203000;clear HO227;clear HL229_0;clear HO232;clear HL233_0;clear HL238_0;clear HL241_0;clear HL243_0;clear HO246;clear HL247_0;clear BK202;clear BK203;clear HR224;clear HR229_0;clear HR233_0;clear HR238_0;clear HR241_0;clear HR243_0;clear HR247_0;clear HB;have HO_4:=n0_;have HO_6:=n1_;have HO_8:=n2_;have HO_9:=n3_;have HO_203000:=n4_;have HO227:=n5_;have HL229_0:=n6_;have HO232:=n7_;have HL233_0:=n8_;have HL238_0:=n9_;have HL241_0:=n10_;have HL243_0:=n11_;have HO246:=n12_;have HL247_0:=n13_;have HO250:=n14_;have BK202:=n15_;have BK203:=n16_;have HR224:=n17_;have HR229_0:=n18_;have HR233_0:=n19_;have HR238_0:=n20_;have HR241_0:=n21_;have HR243_0:=n22_;have HR247_0:=n23_;have HB:=n24_;clear n0_ n1_ n2_ n3_ n4_ n5_ n6_ n7_ n8_ n9_ n10_ n11_ n12_ n13_ n14_ n15_ n16_ n17_ n18_ n19_ n20_ n21_ n22_ n23_ n24_;(try clear hb);(try clear hb2);(try clear hk);(try clear hi);(try clear ho0);obtain ⟨Ao85,co85,eo85⟩:=Kd.R_slice HO250.out;subst eo85;have p251 : 0 ≤ (0 : Int):=(by omega);have q251 : 0 < (t248.length : Int):=of_decide_eq_true (by first|(with_reducible assumption)|assumption);obtain ⟨ad251,e251,hx251_0⟩:=Kd.at_int (Kd.R_reads' HO250.out).2.2 0 p251 q251;cases e251;have qi251 : (0 < t248.length) = True:=eq_true (by omega);(try rw [show ((0 : Int)).toNat = 0 from rfl] at hx251_0);(try rw [Addr.add_zero'] at hx251_0);replace p251:=eq_true p251;replace q251:=eq_true q251;have hnb86:=NB203_202.out;have hnc86:=NB202_203.out;have hcz87_0 : w84.cell? ⟨gb203,0,none⟩ = some (.int .i64 100):=(blk_cell BK203.out 0).trans rfl;have hcz87_1 : w84.cell? ⟨gb203,1,none⟩ = some (.int .i64 10):=(blk_cell BK203.out 1).trans rfl;have hfz87_0:=blk_frozen BK203.out 0;have hfz87_1:=blk_frozen BK203.out 1;have hcz88_0 : w84.cell? ⟨gb202,0,none⟩ = some (.slice Ao5 t196.length co5):=(blk_cell BK202.out 0).trans rfl;have hcz88_1 : w84.cell? ⟨gb202,1,none⟩ = some (.int .i64 t199):=(blk_cell BK202.out 1).trans rfl;have hcz88_2 : w84.cell? ⟨gb202,2,none⟩ = some (.int .i64 t200):=(blk_cell BK202.out 2).trans rfl;have hfz88_0:=blk_frozen BK202.out 0;have hfz88_1:=blk_frozen BK202.out 1;have hfz88_2:=blk_frozen BK202.out 2)|(go_at_call 14;(with_reducible refine (leadlag_Check.calls k2 100 10 _ _ t196 t199 t200 t252 _ ?side1 ?side2 A71.out).mono ?_);(case side1 => repeat (first|exact (Kd.R_reads' HO_203000.out).2.2|(with_reducible refine Kd.C_alloc ?_ _)|(with_reducible refine Kd.C_drewN ?_ _)|(with_reducible refine Kd.C_drew ?_)));(case side2 => exact (Kd.R_reads' HO_203000.out).2.1);rintro e w89 ⟨rfl,hb⟩;have n0_:=Aside0.mk (Kd.R_below (by (with_reducible repeat (first|apply Kd.R_alloc|apply Kd.R_drewN|apply Kd.R_drew));exact HO_4.out) hb);have n1_:=Aside0.mk (Kd.S_below (by (with_reducible repeat (first|apply Kd.S_alloc|apply Kd.S_drewN|apply Kd.S_drew));exact HO_6.out) hb);have n2_:=Aside0.mk (Kd.R_below (by (with_reducible repeat (first|apply Kd.R_alloc|apply Kd.R_drewN|apply Kd.R_drew));exact HO_8.out) hb);have n3_:=Aside0.mk (Kd.R_below (by (with_reducible repeat (first|apply Kd.R_alloc|apply Kd.R_drewN|apply Kd.R_drew));exact HO_9.out) hb);have n4_:=Aside0.mk (Kd.R_below (by (with_reducible repeat (first|apply Kd.R_alloc|apply Kd.R_drewN|apply Kd.R_drew));exact HO_203000.out) hb);have n5_:=Aside0.mk (Kd.S_below (by (with_reducible repeat (first|apply Kd.S_alloc|apply Kd.S_drewN|apply Kd.S_drew));exact HO227.out) hb);have n6_:=Aside0.mk (Kd.R_below (by (with_reducible repeat (first|apply Kd.R_alloc|apply Kd.R_drewN|apply Kd.R_drew));exact HL229_0.out) hb);have n7_:=Aside0.mk (Kd.R_below (by (with_reducible repeat (first|apply Kd.R_alloc|apply Kd.R_drewN|apply Kd.R_drew));exact HO232.out) hb);have n8_:=Aside0.mk (Kd.R_below (by (with_reducible repeat (first|apply Kd.R_alloc|apply Kd.R_drewN|apply Kd.R_drew));exact HL233_0.out) hb);have n9_:=Aside0.mk (Kd.R_below (by (with_reducible repeat (first|apply Kd.R_alloc|apply Kd.R_drewN|apply Kd.R_drew));exact HL238_0.out) hb);have n10_:=Aside0.mk (Kd.R_below (by (with_reducible repeat (first|apply Kd.R_alloc|apply Kd.R_drewN|apply Kd.R_drew));exact HL241_0.out) hb);have n11_:=Aside0.mk (Kd.R_below (by (with_reducible repeat (first|apply Kd.R_alloc|apply Kd.R_drewN|apply Kd.R_drew));exact HL243_0.out) hb);have n12_:=Aside0.mk (Kd.R_below (by (with_reducible repeat (first|apply Kd.R_alloc|apply Kd.R_drewN|apply Kd.R_drew));exact HO246.out) hb);have n13_:=Aside0.mk (Kd.R_below (by (with_reducible repeat (first|apply Kd.R_alloc|apply Kd.R_drewN|apply Kd.R_drew));exact HL247_0.out) hb);have n14_:=Aside0.mk (Kd.R_below (by (with_reducible repeat (first|apply Kd.R_alloc|apply Kd.R_drewN|apply Kd.R_drew));exact HO250.out) hb);have n15_:=Aside0.mk (blk_below (g:=gb202) (o:=.cells #[.slice Ao5 t196.length co5,.int .i64 t199,.int .i64 t200] 32 (0,0)) (by (with_reducible repeat (first|refine blk_drewN ?_ _|refine blk_drew ?_|refine blk_alloc ?_ _));exact BK202.out) hb);have n16_:=Aside0.mk (blk_below (g:=gb203) (o:=.cells #[.int .i64 100,.int .i64 10] 43 (0,0)) (by (with_reducible repeat (first|refine blk_drewN ?_ _|refine blk_drew ?_|refine blk_alloc ?_ _));exact BK203.out) hb);have n17_:=Aside0.mk (Kd.C_below (by repeat (first|(with_reducible exact HR224.out)|(with_reducible refine Kd.C_alloc ?_ _)|(with_reducible refine Kd.C_drewN ?_ _)|(with_reducible refine Kd.C_drew ?_)|exact HR224.out)) hb);have n18_:=Aside0.mk (Kd.C_below (by repeat (first|(with_reducible exact HR229_0.out)|(with_reducible refine Kd.C_alloc ?_ _)|(with_reducible refine Kd.C_drewN ?_ _)|(with_reducible refine Kd.C_drew ?_)|exact HR229_0.out)) hb);have n19_:=Aside0.mk (Kd.C_below (by repeat (first|(with_reducible exact HR233_0.out)|(with_reducible refine Kd.C_alloc ?_ _)|(with_reducible refine Kd.C_drewN ?_ _)|(with_reducible refine Kd.C_drew ?_)|exact HR233_0.out)) hb);have n20_:=Aside0.mk (Kd.C_below (by repeat (first|(with_reducible exact HR238_0.out)|(with_reducible refine Kd.C_alloc ?_ _)|(with_reducible refine Kd.C_drewN ?_ _)|(with_reducible refine Kd.C_drew ?_)|exact HR238_0.out)) hb);have n21_:=Aside0.mk (Kd.C_below (by repeat (first|(with_reducible exact HR241_0.out)|(with_reducible refine Kd.C_alloc ?_ _)|(with_reducible refine Kd.C_drewN ?_ _)|(with_reducible refine Kd.C_drew ?_)|exact HR241_0.out)) hb);have n22_:=Aside0.mk (Kd.C_below (by repeat (first|(with_reducible exact HR243_0.out)|(with_reducible refine Kd.C_alloc ?_ _)|(with_reducible refine Kd.C_drewN ?_ _)|(with_reducible refine Kd.C_drew ?_)|exact HR243_0.out)) hb);have n23_:=Aside0.mk (Kd.C_below (by repeat (first|(with_reducible exact HR247_0.out)|(with_reducible refine Kd.C_alloc ?_ _)|(with_reducible refine Kd.C_drewN ?_ _)|(with_reducible refine Kd.C_drew ?_)|exact HR247_0.out)) hb);have n24_:=Aside0.mk (below_step (by repeat (first|(with_reducible first|exact HB.out|apply below_alloc|apply pw_below_drewN|apply below_drew1|refine below_set ?_ GE202.out|refine below_set ?_ GE203.out)|exact HB.out)) hb);clear HO_4;clear HO_6;clear HO_8;clear HO_9;clear HO_203000;clear HO227;clear HL229_0;clear HO232;clear HL233_0;clear HL238_0;clear HL241_0;clear HL243_0;clear HO246;clear HL247_0;clear HO250;clear BK202;clear BK203;clear HR224;clear HR229_0;clear HR233_0;clear HR238_0;clear HR241_0;clear HR243_0;clear HR247_0;clear HB;have HO_4:=n0_;have HO_6:=n1_;have HO_8:=n2_;have HO_9:=n3_;have HO_203000:=n4_;have HO227:=n5_;have HL229_0:=n6_;have HO232:=n7_;have HL233_0:=n8_;have HL238_0:=n9_;have HL241_0:=n10_;have HL243_0:=n11_;have HO246:=n12_;have HL247_0:=n13_;have HO250:=n14_;have BK202:=n15_;have BK203:=n16_;have HR224:=n17_;have HR229_0:=n18_;have HR233_0:=n19_;have HR238_0:=n20_;have HR241_0:=n21_;have HR243_0:=n22_;have HR247_0:=n23_;have HB:=n24_;clear n0_ n1_ n2_ n3_ n4_ n5_ n6_ n7_ n8_ n9_ n10_ n11_ n12_ n13_ n14_ n15_ n16_ n17_ n18_ n19_ n20_ n21_ n22_ n23_ n24_;(try clear hb);(try clear hb2);(try clear hk);(try clear hi))|(go_at_call 22;(with_reducible refine (leadlag_Running.calls k2 _ _ ((rd_T32 t225 50).f0) ((rd_T32 t225 50).f1) ((rd_T32 t225 50).f2) t230 _ ?side1 ?side2 A48.out).mono ?_);(case side1 => repeat (first|exact (by repeat (first|(with_reducible exact HR229_0.out)|(with_reducible refine Kd.C_alloc ?_ _)|(with_reducible refine Kd.C_drewN ?_ _)|(with_reducible refine Kd.C_drew ?_)|exact HR229_0.out))|(with_reducible refine Kd.C_alloc ?_ _)|(with_reducible refine Kd.C_drewN ?_ _)|(with_reducible refine Kd.C_drew ?_)));(case side2 => exact HC229_0.out);rintro e w78 ⟨v231,rfl,ho0,hb⟩;have n0_:=Aside0.mk (Kd.R_elder' (by (with_reducible repeat (first|apply Kd.R_alloc|apply Kd.R_drewN|apply Kd.R_drew));exact HO_4.out) (Kd.R_base ho0) hb);have n1_:=Aside0.mk (Kd.S_below (by (with_reducible repeat (first|apply Kd.S_alloc|apply Kd.S_drewN|apply Kd.S_drew));exact HO_6.out) hb);have n2_:=Aside0.mk (Kd.R_elder' (by (with_reducible repeat (first|apply Kd.R_alloc|apply Kd.R_drewN|apply Kd.R_drew));exact HO_8.out) (Kd.R_base ho0) hb);have n3_:=Aside0.mk (Kd.R_elder' (by (with_reducible repeat (first|apply Kd.R_alloc|apply Kd.R_drewN|apply Kd.R_drew));exact HO_9.out) (Kd.R_base ho0) hb);have n4_:=Aside0.mk (Kd.R_below (by (with_reducible repeat (first|apply Kd.R_alloc|apply Kd.R_drewN|apply Kd.R_drew));exact HO_203000.out) hb);have n5_:=Aside0.mk (Kd.S_below (by (with_reducible repeat (first|apply Kd.S_alloc|apply Kd.S_drewN|apply Kd.S_drew));exact HO227.out) hb);have n6_:=Aside0.mk (Kd.R_below (by (with_reducible repeat (first|apply Kd.R_alloc|apply Kd.R_drewN|apply Kd.R_drew));exact HL229_0.out) hb);have n7_:=Aside0.mk (Kd.R_lower (Kd.R_new' (Kd.R_new' (Kd.R_new' ho0 (Kd.R_lt (by (with_reducible repeat (first|apply Kd.R_alloc|apply Kd.R_drewN|apply Kd.R_drew));exact HO_4.out))) (Kd.R_lt (by (with_reducible repeat (first|apply Kd.R_alloc|apply Kd.R_drewN|apply Kd.R_drew));exact HO_8.out))) (Kd.R_lt (by (with_reducible repeat (first|apply Kd.R_alloc|apply Kd.R_drewN|apply Kd.R_drew));exact HO_9.out))) (below_size (by repeat (first|(with_reducible first|exact HB.out|apply below_alloc|apply pw_below_drewN|apply below_drew1|refine below_set ?_ GE202.out|refine below_set ?_ GE203.out)|exact HB.out))));have n8_:=Aside0.mk (blk_below (g:=gb202) (o:=.cells #[.slice Ao5 t196.length co5,.int .i64 t199,.int .i64 t200] 32 (0,0)) (by (with_reducible repeat (first|refine blk_drewN ?_ _|refine blk_drew ?_|refine blk_alloc ?_ _));exact BK202.out) hb);have n9_:=Aside0.mk (blk_below (g:=gb203) (o:=.cells #[.int .i64 100,.int .i64 10] 43 (0,0)) (by (with_reducible repeat (first|refine blk_drewN ?_ _|refine blk_drew ?_|refine blk_alloc ?_ _));exact BK203.out) hb);have n10_:=Aside0.mk (Kd.C_below (by repeat (first|(with_reducible exact HR224.out)|(with_reducible refine Kd.C_alloc ?_ _)|(with_reducible refine Kd.C_drewN ?_ _)|(with_reducible refine Kd.C_drew ?_)|exact HR224.out)) hb);have n11_:=Aside0.mk (Kd.C_below (by repeat (first|(with_reducible exact HR229_0.out)|(with_reducible refine Kd.C_alloc ?_ _)|(with_reducible refine Kd.C_drewN ?_ _)|(with_reducible refine Kd.C_drew ?_)|exact HR229_0.out)) hb);have n12_:=Aside0.mk (below_step (by repeat (first|(with_reducible first|exact HB.out|apply below_alloc|apply pw_below_drewN|apply below_drew1|refine below_set ?_ GE202.out|refine below_set ?_ GE203.out)|exact HB.out)) hb);clear HO_4;clear HO_6;clear HO_8;clear HO_9;clear HO_203000;clear HO227;clear HL229_0;clear BK202;clear BK203;clear HR224;clear HR229_0;clear HB;have HO_4:=n0_;have HO_6:=n1_;have HO_8:=n2_;have HO_9:=n3_;have HO_203000:=n4_;have HO227:=n5_;have HL229_0:=n6_;have HO232:=n7_;have BK202:=n8_;have BK203:=n9_;have HR224:=n10_;have HR229_0:=n11_;have HB:=n12_;clear n0_ n1_ n2_ n3_ n4_ n5_ n6_ n7_ n8_ n9_ n10_ n11_ n12_;(try clear hb);(try clear hb2);(try clear hk);(try clear hi);(try clear ho0);have p233 : 0 ≤ (50 : Int):=(by omega);have q233 : 50 < (t225.length : Int):=of_decide_eq_true (by first|(with_reducible assumption)|assumption);obtain ⟨ad233,A233_0,c233_0,e233,hx233_0,hx233_1,hx233_2,hl233_0,hi233_0⟩:=at_T32 (Kd.S_reads' HO227.out).2.2 50 p233 q233;obtain rfl : ad229 = ad233:=(by injection e233);obtain ⟨ce233,hce233,hMe233,hcc233⟩:=Kd.S_get HO227.out z32 50 p233 (by first|exact q233|exact of_decide_eq_true (by first|(with_reducible assumption)|assumption)|(have e_:=(Kd.S_reads' HO227.out).1;omega));obtain ⟨ve233_0,rfl,ge233_0⟩:=k32_openM hMe233;have hv233_0:=hcc233 0 _ rfl;rw [Nat.add_zero] at hv233_0;replace hv233_0:=Option.some.inj (hv233_0.symm.trans hx233_0);rw [hv233_0] at ge233_0;have HL233_0:=Aside0.mk (show Kd.R k62 62 _ _ _ _ ((rd_T32 t225 50).f0) from ge233_0);clear hv233_0 ge233_0;clear hcc233 hce233;(try simp only [show (50 : Int).toNat = 50 from rfl,Nat.reduceMul,Nat.reduceEqDiff,Go.Addr.add,↓reduceIte] at hx233_0);(try simp only [show (50 : Int).toNat = 50 from rfl,Nat.reduceMul,Nat.reduceEqDiff,Go.Addr.add,↓reduceIte] at hx233_1);(try simp only [show (50 : Int).toNat = 50 from rfl,Nat.reduceMul,Nat.reduceEqDiff,Go.Addr.add,↓reduceIte] at hx233_2);have qi233 : (50 < t225.length) = True:=eq_true (by omega);(try rw [show ((50 : Int)).toNat = 50 from rfl] at hx233_0);(try rw [show 50 * 3 = 150 from rfl] at hx233_0);(try rw [show ((50 : Int)).toNat = 50 from rfl] at hx233_1);(try rw [show 50 * 3 = 150 from rfl] at hx233_1);(try rw [show ((50 : Int)).toNat = 50 from rfl] at hx233_2);(try rw [show 50 * 3 = 150 from rfl] at hx233_2);have HR233_0:=Aside0.mk hi233_0;have HC233_0:=Aside0.mk hl233_0;clear hi233_0 hl233_0;replace p233:=eq_true p233;replace q233:=eq_true q233)|(go_at_call 12;(with_reducible refine (leadlag_Spread.calls k2 _ _ ((rd_T32 t225 50).f0) ((rd_T32 t225 50).f1) ((rd_T32 t225 50).f2) t234 t235 _ ?side1 ?side2 A49.out).mono ?_);(case side1 => repeat (first|exact (by repeat (first|(with_reducible exact HR233_0.out)|(with_reducible refine Kd.C_alloc ?_ _)|(with_reducible refine Kd.C_drewN ?_ _)|(with_reducible refine Kd.C_drew ?_)|exact HR233_0.out))|(with_reducible refine Kd.C_alloc ?_ _)|(with_reducible refine Kd.C_drewN ?_ _)|(with_reducible refine Kd.C_drew ?_)));(case side2 => exact HC233_0.out);rintro e w79 ⟨rfl,hb⟩;have n0_:=Aside0.mk (Kd.R_below (by (with_reducible repeat (first|apply Kd.R_alloc|apply Kd.R_drewN|apply Kd.R_drew));exact HO_4.out) hb);have n1_:=Aside0.mk (Kd.S_below (by (with_reducible repeat (first|apply Kd.S_alloc|apply Kd.S_drewN|apply Kd.S_drew));exact HO_6.out) hb);have n2_:=Aside0.mk (Kd.R_below (by (with_reducible repeat (first|apply Kd.R_alloc|apply Kd.R_drewN|apply Kd.R_drew));exact HO_8.out) hb);have n3_:=Aside0.mk (Kd.R_below (by (with_reducible repeat (first|apply Kd.R_alloc|apply Kd.R_drewN|apply Kd.R_drew));exact HO_9.out) hb);have n4_:=Aside0.mk (Kd.R_below (by (with_reducible repeat (first|apply Kd.R_alloc|apply Kd.R_drewN|apply Kd.R_drew));exact HO_203000.out) hb);have n5_:=Aside0.mk (Kd.S_below (by (with_reducible repeat (first|apply Kd.S_alloc|apply Kd.S_drewN|apply Kd.S_drew));exact HO227.out) hb);have n6_:=Aside0.mk (Kd.R_below (by (with_reducible repeat (first|apply Kd.R_alloc|apply Kd.R_drewN|apply Kd.R_drew));exact HL229_0.out) hb);have n7_:=Aside0.mk (Kd.R_below (by (with_reducible repeat (first|apply Kd.R_alloc|apply Kd.R_drewN|apply Kd.R_drew));exact HO232.out) hb);have n8_:=Aside0.mk (Kd.R_below (by (with_reducible repeat (first|apply Kd.R_alloc|apply Kd.R_drewN|apply Kd.R_drew));exact HL233_0.out) hb);have n9_:=Aside0.mk (blk_below (g:=gb202) (o:=.cells #[.slice Ao5 t196.length co5,.int .i64 t199,.int .i64 t200] 32 (0,0)) (by (with_reducible repeat (first|refine blk_drewN ?_ _|refine blk_drew ?_|refine blk_alloc ?_ _));exact BK202.out) hb);have n10_:=Aside0.mk (blk_below (g:=gb203) (o:=.cells #[.int .i64 100,.int .i64 10] 43 (0,0)) (by (with_reducible repeat (first|refine blk_drewN ?_ _|refine blk_drew ?_|refine blk_alloc ?_ _));exact BK203.out) hb);have n11_:=Aside0.mk (Kd.C_below (by repeat (first|(with_reducible exact HR224.out)|(with_reducible refine Kd.C_alloc ?_ _)|(with_reducible refine Kd.C_drewN ?_ _)|(with_reducible refine Kd.C_drew ?_)|exact HR224.out)) hb);have n12_:=Aside0.mk (Kd.C_below (by repeat (first|(with_reducible exact HR229_0.out)|(with_reducible refine Kd.C_alloc ?_ _)|(with_reducible refine Kd.C_drewN ?_ _)|(with_reducible refine Kd.C_drew ?_)|exact HR229_0.out)) hb);have n13_:=Aside0.mk (Kd.C_below (by repeat (first|(with_reducible exact HR233_0.out)|(with_reducible refine Kd.C_alloc ?_ _)|(with_reducible refine Kd.C_drewN ?_ _)|(with_reducible refine Kd.C_drew ?_)|exact HR233_0.out)) hb);have n14_:=Aside0.mk (below_step (by repeat (first|(with_reducible first|exact HB.out|apply below_alloc|apply pw_below_drewN|apply below_drew1|refine below_set ?_ GE202.out|refine below_set ?_ GE203.out)|exact HB.out)) hb);clear HO_4;clear HO_6;clear HO_8;clear HO_9;clear HO_203000;clear HO227;clear HL229_0;clear HO232;clear HL233_0;clear BK202;clear BK203;clear HR224;clear HR229_0;clear HR233_0;clear HB;have HO_4:=n0_;have HO_6:=n1_;have HO_8:=n2_;have HO_9:=n3_;have HO_203000:=n4_;have HO227:=n5_;have HL229_0:=n6_;have HO232:=n7_;have HL233_0:=n8_;have BK202:=n9_;have BK203:=n10_;have HR224:=n11_;have HR229_0:=n12_;have HR233_0:=n13_;have HB:=n14_;clear n0_ n1_ n2_ n3_ n4_ n5_ n6_ n7_ n8_ n9_ n10_ n11_ n12_ n13_ n14_;(try clear hb);(try clear hb2);(try clear hk);(try clear hi);have p236 : 0 ≤ (0 : Int):=(by omega);have q236 : 0 < (t213.length : Int):=of_decide_eq_true (by first|(with_reducible assumption)|assumption);obtain ⟨ad236,e236,hx236_0⟩:=Kd.at_int (Kd.R_reads' HO_8.out).2.2 0 p236 q236;cases e236;have qi236 : (0 < t213.length) = True:=eq_true (by omega);(try rw [show ((0 : Int)).toNat = 0 from rfl] at hx236_0);(try rw [Addr.add_zero'] at hx236_0);replace p236:=eq_true p236;replace q236:=eq_true q236;have p237 : 0 ≤ (0 : Int):=(by omega);have q237 : 0 < (t217.length : Int):=of_decide_eq_true (by first|(with_reducible assumption)|assumption);obtain ⟨ad237,e237,hx237_0⟩:=Kd.at_int (Kd.R_reads' HO_9.out).2.2 0 p237 q237;cases e237;have qi237 : (0 < t217.length) = True:=eq_true (by omega);(try rw [show ((0 : Int)).toNat = 0 from rfl] at hx237_0);(try rw [Addr.add_zero'] at hx237_0);replace p237:=eq_true p237;replace q237:=eq_true q237;have p238 : 0 ≤ (100 : Int):=(by omega);have q238 : 100 < (t208.length : Int):=of_decide_eq_true (by first|(with_reducible assumption)|assumption);obtain ⟨ad238,A238_0,c238_0,e238,hx238_0,hx238_1,hx238_2,hl238_0,hi238_0⟩:=at_T32 (Kd.S_reads' HO_6.out).2.2 100 p238 q238;obtain rfl : ad212 = ad238:=(by injection e238);obtain ⟨ce238,hce238,hMe238,hcc238⟩:=Kd.S_get HO_6.out z32 100 p238 (by first|exact q238|exact of_decide_eq_true (by first|(with_reducible assumption)|assumption)|(have e_:=(Kd.S_reads' HO_6.out).1;omega));obtain ⟨ve238_0,rfl,ge238_0⟩:=k32_openM hMe238;have hv238_0:=hcc238 0 _ rfl;rw [Nat.add_zero] at hv238_0;replace hv238_0:=Option.some.inj (hv238_0.symm.trans hx238_0);rw [hv238_0] at ge238_0;have HL238_0:=Aside0.mk (show Kd.R k62 62 _ _ _ _ ((rd_T32 t208 100).f0) from ge238_0);clear hv238_0 ge238_0;clear hcc238 hce238;(try simp only [show (100 : Int).toNat = 100 from rfl,Nat.reduceMul,Nat.reduceEqDiff,Go.Addr.add,↓reduceIte] at hx238_0);(try simp only [show (100 : Int).toNat = 100 from rfl,Nat.reduceMul,Nat.reduceEqDiff,Go.Addr.add,↓reduceIte] at hx238_1);(try simp only [show (100 : Int).toNat = 100 from rfl,Nat.reduceMul,Nat.reduceEqDiff,Go.Addr.add,↓reduceIte] at hx238_2);have qi238 : (100 < t208.length) = True:=eq_true (by omega);(try rw [show ((100 : Int)).toNat = 100 from rfl] at hx238_0);(try rw [show 100 * 3 = 300 from rfl] at hx238_0);(try rw [show ((100 : Int)).toNat = 100 from rfl] at hx238_1);(try rw [show 100 * 3 = 300 from rfl] at hx238_1);(try rw [show ((100 : Int)).toNat = 100 from rfl] at hx238_2);(try rw [show 100 * 3 = 300 from rfl] at hx238_2);have HR238_0:=Aside0.mk hi238_0;have HC238_0:=Aside0.mk hl238_0;clear hi238_0 hl238_0;replace p238:=eq_true p238;replace q238:=eq_true q238;have p239 : 0 ≤ (0 : Int):=(by omega);have q239 : 0 < (((rd_T32 t208 100).f0).length : Int):=of_decide_eq_true (by first|(with_reducible assumption)|assumption);obtain ⟨ad239,e239,hx239_0,hx239_1,hx239_2⟩:=at_T62 (by repeat (first|(with_reducible exact HR238_0.out)|(with_reducible refine Kd.C_alloc ?_ _)|(with_reducible refine Kd.C_drewN ?_ _)|(with_reducible refine Kd.C_drew ?_)|exact HR238_0.out)) 0 p239 q239;cases e239;have qi239 : (0 < ((rd_T32 t208 100).f0).length) = True:=eq_true (by omega);(try rw [show ((0 : Int)).toNat = 0 from rfl] at hx239_0);(try rw [show 0 * 3 = 0 from rfl] at hx239_0);(try rw [Addr.add_zero'] at hx239_0);(try rw [show ((0 : Int)).toNat = 0 from rfl] at hx239_1);(try rw [show 0 * 3 = 0 from rfl] at hx239_1);(try rw [Addr.add_zero'] at hx239_1);(try rw [show ((0 : Int)).toNat = 0 from rfl] at hx239_2);(try rw [show 0 * 3 = 0 from rfl] at hx239_2);(try rw [Addr.add_zero'] at hx239_2);replace p239:=eq_true p239;replace q239:=eq_true q239;obtain ⟨Ao80,co80,eo80⟩:=Kd.R_slice HO232.out;subst eo80;have p240 : 0 ≤ (0 : Int):=(by omega);have q240 : 0 < (t230.length : Int):=of_decide_eq_true (by first|(with_reducible assumption)|assumption);obtain ⟨ad240,e240,hx240_0⟩:=Kd.at_int (Kd.R_reads' HO232.out).2.2 0 p240 q240;cases e240;have qi240 : (0 < t230.length) = True:=eq_true (by omega);(try rw [show ((0 : Int)).toNat = 0 from rfl] at hx240_0);(try rw [Addr.add_zero'] at hx240_0);replace p240:=eq_true p240;replace q240:=eq_true q240;have p241 : 0 ≤ (5 : Int):=(by omega);have q241 : 5 < (t225.length : Int):=of_decide_eq_true (by first|(with_reducible assumption)|assumption);obtain ⟨ad241,A241_0,c241_0,e241,hx241_0,hx241_1,hx241_2,hl241_0,hi241_0⟩:=at_T32 (Kd.S_reads' HO227.out).2.2 5 p241 q241;obtain rfl : ad229 = ad241:=(by injection e241);obtain ⟨ce241,hce241,hMe241,hcc241⟩:=Kd.S_get HO227.out z32 5 p241 (by first|exact q241|exact of_decide_eq_true (by first|(with_reducible assumption)|assumption)|(have e_:=(Kd.S_reads' HO227.out).1;omega));obtain ⟨ve241_0,rfl,ge241_0⟩:=k32_openM hMe241;have hv241_0:=hcc241 0 _ rfl;rw [Nat.add_zero] at hv241_0;replace hv241_0:=Option.some.inj (hv241_0.symm.trans hx241_0);rw [hv241_0] at ge241_0;have HL241_0:=Aside0.mk (show Kd.R k62 62 _ _ _ _ ((rd_T32 t225 5).f0) from ge241_0);clear hv241_0 ge241_0;clear hcc241 hce241;(try simp only [show (5 : Int).toNat = 5 from rfl,Nat.reduceMul,Nat.reduceEqDiff,Go.Addr.add,↓reduceIte] at hx241_0);(try simp only [show (5 : Int).toNat = 5 from rfl,Nat.reduceMul,Nat.reduceEqDiff,Go.Addr.add,↓reduceIte] at hx241_1);(try simp only [show (5 : Int).toNat = 5 from rfl,Nat.reduceMul,Nat.reduceEqDiff,Go.Addr.add,↓reduceIte] at hx241_2);have qi241 : (5 < t225.length) = True:=eq_true (by omega);(try rw [show ((5 : Int)).toNat = 5 from rfl] at hx241_0);(try rw [show 5 * 3 = 15 from rfl] at hx241_0);(try rw [show ((5 : Int)).toNat = 5 from rfl] at hx241_1);(try rw [show 5 * 3 = 15 from rfl] at hx241_1);(try rw [show ((5 : Int)).toNat = 5 from rfl] at hx241_2);(try rw [show 5 * 3 = 15 from rfl] at hx241_2);have HR241_0:=Aside0.mk hi241_0;have HC241_0:=Aside0.mk hl241_0;clear hi241_0 hl241_0;replace p241:=eq_true p241;replace q241:=eq_true q241))
     go_ret
     exact ⟨by first|rfl|(simp [errW_none,errW_some] <;> rfl)|(simp [*,errW_none,errW_some] <;> rfl),by repeat (first|(with_reducible first|exact HB.out|apply below_alloc|apply pw_below_drewN|apply below_drew1|refine below_set ?_ GE202.out|refine below_set ?_ GE203.out)|exact HB.out)⟩
end Go.Proofs.Ytbecejhjdagkdaa.L
