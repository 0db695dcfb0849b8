-- Written by pp.py (a program of this session, over the kit's print.py) out of the translation. Not trusted: Lean checks it.
import Derived.Test.YtbecejhjdagkdaaLx0
import Derived.Test.YtbecejhjdagkdaaLx3
import Derived.Test.YtbecejhjdagkdaaLx5
import Derived.Test.YtbecejhjdagkdaaLx6
namespace Go.Proofs.Ytbecejhjdagkdaa.L
open Go.RowKit Go.Proofs.YtbecejhjdagkdaaW.PrintWords Go.Proofs.YtbecejhjdagkdaaW.PrintLast Go.Proofs.YtbecejhjdagkdaaW.PrintMore
attribute [local go_sem] max2_int min2_int max_two min_two max_three min_three max_four min_four   -- for this text's walks alone
attribute [local go_sem] pp_mod256 pp_mod256_w
set_option linter.unusedVariables false
set_option linter.unusedSimpArgs false

/-! ### leadlag_Play: function 26 -/
mutual
def leadlag_Play.j0 : Nat→List Int→Int→Bool→Int→Int→List (S62)→Int→Int→Option ((List (S32)) × Int)
 | 0,_,_,_,_,_,_,_,_ => none
 | k + 1,x2,x3,x42,x178000,x178001,x179000,x179001,x179002 => if x42 = true then (some (([] : List (S32)),6)) else (if 0 ≤ (x179000.length : Int) then (if ((x179000.length : Int) : Int).toNat ≤ 281474976710656 then (leadlag_Play.l0 k x2 x3 (List.replicate ((x179000.length : Int) : Int).toNat false) x179000 (x179000.length : Int) 0 x178000 x178001 x179000 x179001 x179002) else (none)) else (none))
def leadlag_Play.l0 : Nat→List Int→Int→List Bool→List (S62)→Int→Int→Int→Int→List (S62)→Int→Int→Option ((List (S32)) × Int)
 | 0,_,_,_,_,_,_,_,_,_,_,_ => none
 | k + 1,x2,x3,x11,x48,x49,x50,x178000,x178001,x179000,x179001,x179002 => if x50 < x49 then (if 0 ≤ x50 then (if x50 < (x48.length : Int) then (if x50 < (x11.length : Int) then (leadlag_Play.l0 k x2 x3 (x11.set (x50 : Int).toNat ((rd_T62 x48 x50).f2)) x48 x49 (wrap64 (x50 + 1)) x178000 x178001 x179000 x179001 x179002) else (none)) else (none)) else (none)) else (leadlag_Play.l1 k x3 x11 ([] : List (S32)) x2 (x2.length : Int) 0 x178000 x178001 x179000 x179001 x179002)
def leadlag_Play.l1 : Nat→Int→List Bool→List (S32)→List Int→Int→Int→Int→Int→List (S62)→Int→Int→Option ((List (S32)) × Int)
 | 0,_,_,_,_,_,_,_,_,_,_,_ => none
 | k + 1,x3,x11,x14,x61,x62,x63,x178000,x178001,x179000,x179001,x179002 => if x63 < x62 then (if 0 ≤ x63 then (if x63 < (x61.length : Int) then ((leadlag_step.f k x178000 x178001 x179000 x179001 x179002 (rd x61 x63) x11 (wrap64 (x3 + x63))).bind fun bt188 => (if x14.length < 3518437208883 then (leadlag_Play.l1 k x3 x11 (x14 ++ [(⟨bt188.1,bt188.2.1,bt188.2.2⟩ : S32)]) x61 x62 (wrap64 (x63 + 1)) x178000 x178001 bt188.1 bt188.2.1 bt188.2.2) else (none))) else (none)) else (none)) else (some (x14,0))
end
def leadlag_Play.f (k : Nat) (a0_0 : Int) (a0_1 : Int) (l1_0 : List (S62)) (a1_1 : Int) (a1_2 : Int) (l2 : List Int) (a3 : Int) : Option ((List (S32)) × Int):=(leadlag_Check.f k a0_0 a0_1 l1_0 a1_1 a1_2).bind fun t179 => (if t179 = 0 then (if (l2.length : Int) > 10000 then (some (([] : List (S32)),7)) else (if (l2.length : Int) > 0 then ((leadlag_timely.f l1_0 a1_1 a1_2 a3).bind fun t180 => (if t180 = true then (leadlag_Play.j0 k l2 a3 (decide ((wrap64 ((wrap64 (a3 + (l2.length : Int))) - 1)) > 6311433599)) a0_0 a0_1 l1_0 a1_1 a1_2) else (leadlag_Play.j0 k l2 a3 true a0_0 a0_1 l1_0 a1_1 a1_2))) else (leadlag_Play.j0 k l2 a3 false a0_0 a0_1 l1_0 a1_1 a1_2))) else (some (([] : List (S32)),t179)))
theorem leadlag_Play.mono_l : ∀ k,(∀ y0 y1 y2 y3 y4 y5 y6 y7,LeO (leadlag_Play.j0 k y0 y1 y2 y3 y4 y5 y6 y7) (leadlag_Play.j0 (k + 1) y0 y1 y2 y3 y4 y5 y6 y7))∧(∀ y0 y1 y2 y3 y4 y5 y6 y7 y8 y9 y10,LeO (leadlag_Play.l0 k y0 y1 y2 y3 y4 y5 y6 y7 y8 y9 y10) (leadlag_Play.l0 (k + 1) y0 y1 y2 y3 y4 y5 y6 y7 y8 y9 y10))∧(∀ y0 y1 y2 y3 y4 y5 y6 y7 y8 y9 y10,LeO (leadlag_Play.l1 k y0 y1 y2 y3 y4 y5 y6 y7 y8 y9 y10) (leadlag_Play.l1 (k + 1) y0 y1 y2 y3 y4 y5 y6 y7 y8 y9 y10))
 | 0 => ⟨fun _ _ _ _ _ _ _ _ r h => by simp [leadlag_Play.j0] at h,fun _ _ _ _ _ _ _ _ _ _ _ r h => by simp [leadlag_Play.l0] at h,fun _ _ _ _ _ _ _ _ _ _ _ r h => by simp [leadlag_Play.l1] at h⟩
 | k + 1 => by
  obtain ⟨ih0,ih1,ih2⟩:=leadlag_Play.mono_l k
  refine ⟨?_,?_,?_⟩
  ·intro y0 y1 y2 y3 y4 y5 y6 y7
   unfold leadlag_Play.j0
   repeat' first
   | (with_reducible exact ih0 _ _ _ _ _ _ _ _)
   | (with_reducible exact ih1 _ _ _ _ _ _ _ _ _ _ _)
   | (with_reducible exact ih2 _ _ _ _ _ _ _ _ _ _ _)
   | (with_reducible exact leadlag_Check.mono _ _ _ _ _ _)
   | (with_reducible exact leadlag_step.mono _ _ _ _ _ _ _ _ _)
   | (with_reducible exact LeO.refl _)
   | (with_reducible exact LeO.none _)
   | (with_reducible refine LeO.ite ?_ ?_)
   | (with_reducible refine LeO.bind ?_ (fun _ => ?_))
   | exact ih0 _ _ _ _ _ _ _ _
   | exact ih1 _ _ _ _ _ _ _ _ _ _ _
   | exact ih2 _ _ _ _ _ _ _ _ _ _ _
   | exact leadlag_Check.mono _ _ _ _ _ _
   | exact leadlag_step.mono _ _ _ _ _ _ _ _ _
   | exact LeO.none _
   | refine LeO.ite ?_ ?_
   | refine LeO.bind ?_ (fun _ => ?_)
  ·intro y0 y1 y2 y3 y4 y5 y6 y7 y8 y9 y10
   unfold leadlag_Play.l0
   repeat' first
   | (with_reducible exact ih0 _ _ _ _ _ _ _ _)
   | (with_reducible exact ih1 _ _ _ _ _ _ _ _ _ _ _)
   | (with_reducible exact ih2 _ _ _ _ _ _ _ _ _ _ _)
   | (with_reducible exact leadlag_Check.mono _ _ _ _ _ _)
   | (with_reducible exact leadlag_step.mono _ _ _ _ _ _ _ _ _)
   | (with_reducible exact LeO.refl _)
   | (with_reducible exact LeO.none _)
   | (with_reducible refine LeO.ite ?_ ?_)
   | (with_reducible refine LeO.bind ?_ (fun _ => ?_))
   | exact ih0 _ _ _ _ _ _ _ _
   | exact ih1 _ _ _ _ _ _ _ _ _ _ _
   | exact ih2 _ _ _ _ _ _ _ _ _ _ _
   | exact leadlag_Check.mono _ _ _ _ _ _
   | exact leadlag_step.mono _ _ _ _ _ _ _ _ _
   | exact LeO.none _
   | refine LeO.ite ?_ ?_
   | refine LeO.bind ?_ (fun _ => ?_)
  ·intro y0 y1 y2 y3 y4 y5 y6 y7 y8 y9 y10
   unfold leadlag_Play.l1
   repeat' first
   | (with_reducible exact ih0 _ _ _ _ _ _ _ _)
   | (with_reducible exact ih1 _ _ _ _ _ _ _ _ _ _ _)
   | (with_reducible exact ih2 _ _ _ _ _ _ _ _ _ _ _)
   | (with_reducible exact leadlag_Check.mono _ _ _ _ _ _)
   | (with_reducible exact leadlag_step.mono _ _ _ _ _ _ _ _ _)
   | (with_reducible exact LeO.refl _)
   | (with_reducible exact LeO.none _)
   | (with_reducible refine LeO.ite ?_ ?_)
   | (with_reducible refine LeO.bind ?_ (fun _ => ?_))
   | exact ih0 _ _ _ _ _ _ _ _
   | exact ih1 _ _ _ _ _ _ _ _ _ _ _
   | exact ih2 _ _ _ _ _ _ _ _ _ _ _
   | exact leadlag_Check.mono _ _ _ _ _ _
   | exact leadlag_step.mono _ _ _ _ _ _ _ _ _
   | exact LeO.none _
   | refine LeO.ite ?_ ?_
   | refine LeO.bind ?_ (fun _ => ?_)
theorem leadlag_Play.mono : ∀ a0 a1 a2 a3 a4 a5 a6 k,LeO (leadlag_Play.f k a0 a1 a2 a3 a4 a5 a6) (leadlag_Play.f (k + 1) a0 a1 a2 a3 a4 a5 a6):=by
 intro a0 a1 a2 a3 a4 a5 a6 k
 obtain ⟨ih0,ih1,ih2⟩:=leadlag_Play.mono_l k
 unfold leadlag_Play.f
 repeat' first
   | (with_reducible exact ih0 _ _ _ _ _ _ _ _)
   | (with_reducible exact ih1 _ _ _ _ _ _ _ _ _ _ _)
   | (with_reducible exact ih2 _ _ _ _ _ _ _ _ _ _ _)
   | (with_reducible exact leadlag_Check.mono _ _ _ _ _ _)
   | (with_reducible exact leadlag_step.mono _ _ _ _ _ _ _ _ _)
   | (with_reducible exact LeO.refl _)
   | (with_reducible exact LeO.none _)
   | (with_reducible refine LeO.ite ?_ ?_)
   | (with_reducible refine LeO.bind ?_ (fun _ => ?_))
   | exact ih0 _ _ _ _ _ _ _ _
   | exact ih1 _ _ _ _ _ _ _ _ _ _ _
   | exact ih2 _ _ _ _ _ _ _ _ _ _ _
   | exact leadlag_Check.mono _ _ _ _ _ _
   | exact leadlag_step.mono _ _ _ _ _ _ _ _ _
   | exact LeO.none _
   | refine LeO.ite ?_ ?_
   | refine LeO.bind ?_ (fun _ => ?_)
set_option maxHeartbeats 8000000 in
set_option maxRecDepth 100000 in
theorem leadlag_Play.calls (k : Nat) (a0_0 : Int) (a0_1 : Int) (A1_0 : Option Addr) (c1_0 : Nat) (l1_0 : List (S62)) (a1_1 : Int) (a1_2 : Int) (A2 : Option Addr) (c2 : Nat) (l2 : List Int) (a3 : Int) (r1 : List (S32)) (r2 : Int) (w : World) (hr1_0 : Kd.C k62 w A1_0 l1_0.length l1_0) (hc1_0 : l1_0.length ≤ c1_0) (hr2 : Kd.C (Kd.int .i64) w A2 l2.length l2) (hc2 : l2.length ≤ c2) (h : leadlag_Play.f k a0_0 a0_1 l1_0 a1_1 a1_2 l2 a3 = some (r1,r2)) :
  Calls Try.prog 26 #[.agg #[.int .i64 a0_0,.int .i64 a0_1],.agg #[.slice A1_0 l1_0.length c1_0,.int .i64 a1_1,.int .i64 a1_2],.slice A2 l2.length c2,.int .i64 a3] w fun e w' => ∃ v0_ : Value,e = .returned (.tuple #[v0_,.int .i64 r2])∧Kd.S k32 32 w' w.heap.size (fun _ => True) v0_ r1∧Below w.heap.size w w':=by
 have hu43:=Try.underlying43
 have hu32:=Try.underlying32
 have hu62:=Try.underlying62
 have HR1_0:=Aside0.mk hr1_0
 have HC1_0:=Aside0.mk hc1_0
 clear hr1_0 hc1_0
 have HR2:=Aside0.mk hr2
 have HC2:=Aside0.mk hc2
 clear hr2 hc2
 have HB:=Aside0.mk (Below.refl w.heap.size w)
 have H : ((leadlag_Check.f k a0_0 a0_1 l1_0 a1_1 a1_2).bind fun t179 => (if t179 = 0 then (if (l2.length : Int) > 10000 then (some (([] : List (S32)),7)) else (if (l2.length : Int) > 0 then ((leadlag_timely.f l1_0 a1_1 a1_2 a3).bind fun t180 => (if t180 = true then (leadlag_Play.j0 k l2 a3 (decide ((wrap64 ((wrap64 (a3 + (l2.length : Int))) - 1)) > 6311433599)) a0_0 a0_1 l1_0 a1_1 a1_2) else (leadlag_Play.j0 k l2 a3 true a0_0 a0_1 l1_0 a1_1 a1_2))) else (leadlag_Play.j0 k l2 a3 false a0_0 a0_1 l1_0 a1_1 a1_2))) else (some (([] : List (S32)),t179)))) = some (r1,r2):=h
 clear h
 replace H:=Option.bind_eq_some_iff.mp H
 obtain ⟨t179,A50,H⟩:=H
 replace H : (if t179 = 0 then (if (l2.length : Int) > 10000 then (some (([] : List (S32)),7)) else (if (l2.length : Int) > 0 then ((leadlag_timely.f l1_0 a1_1 a1_2 a3).bind fun t180 => (if t180 = true then (leadlag_Play.j0 k l2 a3 (decide ((wrap64 ((wrap64 (a3 + (l2.length : Int))) - 1)) > 6311433599)) a0_0 a0_1 l1_0 a1_1 a1_2) else (leadlag_Play.j0 k l2 a3 true a0_0 a0_1 l1_0 a1_1 a1_2))) else (leadlag_Play.j0 k l2 a3 false a0_0 a0_1 l1_0 a1_1 a1_2))) else (some (([] : List (S32)),t179))) = some (r1,r2):=H
 have A5:=Aside0.mk A50
 clear A50
 by_cases c6 : t179 = 0
 rotate_left
 ·rw [if_neg c6] at H
  have c6b0 : (t179 == 0) = false:=beq_eq_false_iff_ne.mpr c6
  have c6b1 : (t179 != 0) = true:=bne_iff_ne.mpr c6
  simp only [Option.some.injEq,Prod.mk.injEq] at H
  obtain ⟨rfl,rfl⟩:=H
  go_enter Try.func26,Try.ntmps26
  go_wp2_with (first|((with_reducible refine gate_dst (N:=4) rfl ?_);refine box_event ?hg (N:=4) ?hd (cs:=#[.int .i64 a0_0,.int .i64 a0_1]) (t:=43) ?hr ?_;(case hd => rfl);(case hg => rfl);(case hr => first|(go_simp;done)|(go_simp;rfl));intro gb177 hg w63 hbox hb;have n0_:=Aside0.mk (below_step (by repeat (first|(with_reducible first|exact HB.out|apply below_alloc|apply pw_below_drewN|apply below_drew1)|exact HB.out)) hb);have n1_:=Aside0.mk (hbox);have n2_:=Aside0.mk ((by rw [hg];exact (below_size (by repeat (first|(with_reducible first|exact HB.out|apply below_alloc|apply pw_below_drewN|apply below_drew1)|exact HB.out))) : w.heap.size ≤ gb177));have n3_:=Aside0.mk ((by rw [hg];exact (below_size (by repeat (first|(with_reducible first|exact HB.out|apply below_alloc|apply pw_below_drewN|apply below_drew1)|exact HB.out))) : w.heap.size ≤ gb177));clear HB;have HB:=n0_;have BK177:=n1_;have GW177:=n2_;have GE177:=n3_;clear n0_ n1_ n2_ n3_;clear hb hbox hg)|((with_reducible refine gate_dst (N:=5) rfl ?_);refine box_event ?hg (N:=5) ?hd (cs:=#[.slice A1_0 l1_0.length c1_0,.int .i64 a1_1,.int .i64 a1_2]) (t:=32) ?hr ?_;(case hd => rfl);(case hg => rfl);(case hr => first|(go_simp;done)|(go_simp;rfl));intro gb178 hg w64 hbox hb;have n0_:=Aside0.mk (blk_below (g:=gb177) (o:=.cells #[.int .i64 a0_0,.int .i64 a0_1] 43 (0,0)) (by (with_reducible repeat (first|refine blk_drewN ?_ _|refine blk_drew ?_|refine blk_alloc ?_ _));exact BK177.out) hb);have n1_:=Aside0.mk (below_step (by repeat (first|(with_reducible first|exact HB.out|apply below_alloc|apply pw_below_drewN|apply below_drew1|refine below_set ?_ GE177.out)|exact HB.out)) hb);have n2_:=Aside0.mk (hbox);have n3_:=Aside0.mk ((by rw [hg];exact (below_size (by repeat (first|(with_reducible first|exact HB.out|apply below_alloc|apply pw_below_drewN|apply below_drew1|refine below_set ?_ GE177.out)|exact HB.out))) : w.heap.size ≤ gb178));have n4_:=Aside0.mk ((by rw [hg];exact (below_size (by repeat (first|(with_reducible first|exact HB.out|apply below_alloc|apply pw_below_drewN|apply below_drew1|refine below_set ?_ GE177.out)|exact HB.out))) : w.heap.size ≤ gb178));have n5_:=Aside0.mk ((by rw [hg];exact Nat.ne_of_lt (blk_lt (g:=gb177) (o:=.cells #[.int .i64 a0_0,.int .i64 a0_1] 43 (0,0)) (by (with_reducible repeat (first|refine blk_drewN ?_ _|refine blk_drew ?_|refine blk_alloc ?_ _));exact BK177.out)) : gb177 ≠ gb178));have n6_:=Aside0.mk ((by rw [hg];exact Nat.ne_of_gt (blk_lt (g:=gb177) (o:=.cells #[.int .i64 a0_0,.int .i64 a0_1] 43 (0,0)) (by (with_reducible repeat (first|refine blk_drewN ?_ _|refine blk_drew ?_|refine blk_alloc ?_ _));exact BK177.out)) : gb178 ≠ gb177));clear BK177;clear HB;have BK177:=n0_;have HB:=n1_;have BK178:=n2_;have GW178:=n3_;have GE178:=n4_;have NB177_178:=n5_;have NB178_177:=n6_;clear n0_ n1_ n2_ n3_ n4_ n5_ n6_;clear hb hbox hg;have hnb65:=NB177_178.out;have hnc65:=NB178_177.out;have hcz66_0 : w64.cell? ⟨gb177,0,none⟩ = some (.int .i64 a0_0):=(blk_cell BK177.out 0).trans rfl;have hcz66_1 : w64.cell? ⟨gb177,1,none⟩ = some (.int .i64 a0_1):=(blk_cell BK177.out 1).trans rfl;have hfz66_0:=blk_frozen BK177.out 0;have hfz66_1:=blk_frozen BK177.out 1;have hcz67_0 : w64.cell? ⟨gb178,0,none⟩ = some (.slice A1_0 l1_0.length c1_0):=(blk_cell BK178.out 0).trans rfl;have hcz67_1 : w64.cell? ⟨gb178,1,none⟩ = some (.int .i64 a1_1):=(blk_cell BK178.out 1).trans rfl;have hcz67_2 : w64.cell? ⟨gb178,2,none⟩ = some (.int .i64 a1_2):=(blk_cell BK178.out 2).trans rfl;have hfz67_0:=blk_frozen BK178.out 0;have hfz67_1:=blk_frozen BK178.out 1;have hfz67_2:=blk_frozen BK178.out 2)|((with_reducible refine gate_callee (f:=14) rfl ?_);refine goesL_ (some 19) rfl rfl Try.func14 (by kernel_rfl) rfl #[.agg #[.int .i64 a0_0,.int .i64 a0_1],.agg #[.slice A1_0 l1_0.length c1_0,.int .i64 a1_1,.int .i64 a1_2]] rfl (by (try simp only [List.map_toArray,List.map_cons,List.map_nil]);first|done|rfl|(simp only [List.length_drop,List.length_take];rfl)) ?_;(with_reducible refine (leadlag_Check.calls k a0_0 a0_1 _ _ l1_0 a1_1 a1_2 t179 _ ?side1 ?side2 A5.out).mono ?_);(case side1 => repeat (first|exact (Kd.C_below HR1_0.out HB.out)|(with_reducible refine Kd.C_alloc ?_ _)|(with_reducible refine Kd.C_drewN ?_ _)|(with_reducible refine Kd.C_drew ?_)));(case side2 => exact HC1_0.out);rintro e w68 ⟨rfl,hb⟩;refine ⟨_,rfl,?_⟩;have n0_:=Aside0.mk (blk_below (g:=gb177) (o:=.cells #[.int .i64 a0_0,.int .i64 a0_1] 43 (0,0)) (by (with_reducible repeat (first|refine blk_drewN ?_ _|refine blk_drew ?_|refine blk_alloc ?_ _));exact BK177.out) hb);have n1_:=Aside0.mk (blk_below (g:=gb178) (o:=.cells #[.slice A1_0 l1_0.length c1_0,.int .i64 a1_1,.int .i64 a1_2] 32 (0,0)) (by (with_reducible repeat (first|refine blk_drewN ?_ _|refine blk_drew ?_|refine blk_alloc ?_ _));exact BK178.out) hb);have n2_:=Aside0.mk (below_step (by repeat (first|(with_reducible first|exact HB.out|apply below_alloc|apply pw_below_drewN|apply below_drew1|refine below_set ?_ GE177.out|refine below_set ?_ GE178.out)|exact HB.out)) hb);clear BK177;clear BK178;clear HB;have BK177:=n0_;have BK178:=n1_;have HB:=n2_;clear n0_ n1_ n2_;(try clear hb);(try clear hb2);(try clear hk);(try clear hi)))
  go_ret2
  exact ⟨_,by first|rfl|(simp [errW_none,errW_some] <;> rfl)|(simp [*,errW_none,errW_some] <;> rfl),by first|exact Kd.S_nil _ _ _ _ _|exact Kd.N_nil _ _ _ _ _|exact Kd.V_nil _ _ _ _ _|exact Kd.Q_nil _ _ _ _ _|exact Kd.R_nil _ _ _ _ _,by repeat (first|(with_reducible first|exact HB.out|apply below_alloc|apply pw_below_drewN|apply below_drew1|refine below_set ?_ GE177.out|refine below_set ?_ GE178.out)|exact HB.out)⟩

 rw [if_pos c6] at H
 have c6b0 : (t179 == 0) = true:=beq_iff_eq.mpr c6
 have c6b1 : (t179 != 0) = false:=bne_eq_false_iff_eq.mpr c6
 clear c6
 by_cases c7 : (l2.length : Int) > 10000
 ·rw [if_pos c7] at H
  have c7b0 : decide (10000 < (l2.length : Int)) = true:=decide_eq_true c7
  have c7b1 : decide (10000 < l2.length) = true:=decide_eq_true (by omega)
  clear c7
  simp only [Option.some.injEq,Prod.mk.injEq] at H
  obtain ⟨rfl,rfl⟩:=H
  go_enter Try.func26,Try.ntmps26
  go_wp2_with (first|((with_reducible refine gate_dst (N:=4) rfl ?_);refine box_event ?hg (N:=4) ?hd (cs:=#[.int .i64 a0_0,.int .i64 a0_1]) (t:=43) ?hr ?_;(case hd => rfl);(case hg => rfl);(case hr => first|(go_simp;done)|(go_simp;rfl));intro gb177 hg w8 hbox hb;have n0_:=Aside0.mk (below_step (by repeat (first|(with_reducible first|exact HB.out|apply below_alloc|apply pw_below_drewN|apply below_drew1)|exact HB.out)) hb);have n1_:=Aside0.mk (hbox);have n2_:=Aside0.mk ((by rw [hg];exact (below_size (by repeat (first|(with_reducible first|exact HB.out|apply below_alloc|apply pw_below_drewN|apply below_drew1)|exact HB.out))) : w.heap.size ≤ gb177));have n3_:=Aside0.mk ((by rw [hg];exact (below_size (by repeat (first|(with_reducible first|exact HB.out|apply below_alloc|apply pw_below_drewN|apply below_drew1)|exact HB.out))) : w.heap.size ≤ gb177));clear HB;have HB:=n0_;have BK177:=n1_;have GW177:=n2_;have GE177:=n3_;clear n0_ n1_ n2_ n3_;clear hb hbox hg)|((with_reducible refine gate_dst (N:=5) rfl ?_);refine box_event ?hg (N:=5) ?hd (cs:=#[.slice A1_0 l1_0.length c1_0,.int .i64 a1_1,.int .i64 a1_2]) (t:=32) ?hr ?_;(case hd => rfl);(case hg => rfl);(case hr => first|(go_simp;done)|(go_simp;rfl));intro gb178 hg w9 hbox hb;have n0_:=Aside0.mk (blk_below (g:=gb177) (o:=.cells #[.int .i64 a0_0,.int .i64 a0_1] 43 (0,0)) (by (with_reducible repeat (first|refine blk_drewN ?_ _|refine blk_drew ?_|refine blk_alloc ?_ _));exact BK177.out) hb);have n1_:=Aside0.mk (below_step (by repeat (first|(with_reducible first|exact HB.out|apply below_alloc|apply pw_below_drewN|apply below_drew1|refine below_set ?_ GE177.out)|exact HB.out)) hb);have n2_:=Aside0.mk (hbox);have n3_:=Aside0.mk ((by rw [hg];exact (below_size (by repeat (first|(with_reducible first|exact HB.out|apply below_alloc|apply pw_below_drewN|apply below_drew1|refine below_set ?_ GE177.out)|exact HB.out))) : w.heap.size ≤ gb178));have n4_:=Aside0.mk ((by rw [hg];exact (below_size (by repeat (first|(with_reducible first|exact HB.out|apply below_alloc|apply pw_below_drewN|apply below_drew1|refine below_set ?_ GE177.out)|exact HB.out))) : w.heap.size ≤ gb178));have n5_:=Aside0.mk ((by rw [hg];exact Nat.ne_of_lt (blk_lt (g:=gb177) (o:=.cells #[.int .i64 a0_0,.int .i64 a0_1] 43 (0,0)) (by (with_reducible repeat (first|refine blk_drewN ?_ _|refine blk_drew ?_|refine blk_alloc ?_ _));exact BK177.out)) : gb177 ≠ gb178));have n6_:=Aside0.mk ((by rw [hg];exact Nat.ne_of_gt (blk_lt (g:=gb177) (o:=.cells #[.int .i64 a0_0,.int .i64 a0_1] 43 (0,0)) (by (with_reducible repeat (first|refine blk_drewN ?_ _|refine blk_drew ?_|refine blk_alloc ?_ _));exact BK177.out)) : gb178 ≠ gb177));clear BK177;clear HB;have BK177:=n0_;have HB:=n1_;have BK178:=n2_;have GW178:=n3_;have GE178:=n4_;have NB177_178:=n5_;have NB178_177:=n6_;clear n0_ n1_ n2_ n3_ n4_ n5_ n6_;clear hb hbox hg;have hnb10:=NB177_178.out;have hnc10:=NB178_177.out;have hcz11_0 : w9.cell? ⟨gb177,0,none⟩ = some (.int .i64 a0_0):=(blk_cell BK177.out 0).trans rfl;have hcz11_1 : w9.cell? ⟨gb177,1,none⟩ = some (.int .i64 a0_1):=(blk_cell BK177.out 1).trans rfl;have hfz11_0:=blk_frozen BK177.out 0;have hfz11_1:=blk_frozen BK177.out 1;have hcz12_0 : w9.cell? ⟨gb178,0,none⟩ = some (.slice A1_0 l1_0.length c1_0):=(blk_cell BK178.out 0).trans rfl;have hcz12_1 : w9.cell? ⟨gb178,1,none⟩ = some (.int .i64 a1_1):=(blk_cell BK178.out 1).trans rfl;have hcz12_2 : w9.cell? ⟨gb178,2,none⟩ = some (.int .i64 a1_2):=(blk_cell BK178.out 2).trans rfl;have hfz12_0:=blk_frozen BK178.out 0;have hfz12_1:=blk_frozen BK178.out 1;have hfz12_2:=blk_frozen BK178.out 2)|((with_reducible refine gate_callee (f:=14) rfl ?_);refine goesL_ (some 19) rfl rfl Try.func14 (by kernel_rfl) rfl #[.agg #[.int .i64 a0_0,.int .i64 a0_1],.agg #[.slice A1_0 l1_0.length c1_0,.int .i64 a1_1,.int .i64 a1_2]] rfl (by (try simp only [List.map_toArray,List.map_cons,List.map_nil]);first|done|rfl|(simp only [List.length_drop,List.length_take];rfl)) ?_;(with_reducible refine (leadlag_Check.calls k a0_0 a0_1 _ _ l1_0 a1_1 a1_2 t179 _ ?side1 ?side2 A5.out).mono ?_);(case side1 => repeat (first|exact (Kd.C_below HR1_0.out HB.out)|(with_reducible refine Kd.C_alloc ?_ _)|(with_reducible refine Kd.C_drewN ?_ _)|(with_reducible refine Kd.C_drew ?_)));(case side2 => exact HC1_0.out);rintro e w13 ⟨rfl,hb⟩;refine ⟨_,rfl,?_⟩;have n0_:=Aside0.mk (blk_below (g:=gb177) (o:=.cells #[.int .i64 a0_0,.int .i64 a0_1] 43 (0,0)) (by (with_reducible repeat (first|refine blk_drewN ?_ _|refine blk_drew ?_|refine blk_alloc ?_ _));exact BK177.out) hb);have n1_:=Aside0.mk (blk_below (g:=gb178) (o:=.cells #[.slice A1_0 l1_0.length c1_0,.int .i64 a1_1,.int .i64 a1_2] 32 (0,0)) (by (with_reducible repeat (first|refine blk_drewN ?_ _|refine blk_drew ?_|refine blk_alloc ?_ _));exact BK178.out) hb);have n2_:=Aside0.mk (below_step (by repeat (first|(with_reducible first|exact HB.out|apply below_alloc|apply pw_below_drewN|apply below_drew1|refine below_set ?_ GE177.out|refine below_set ?_ GE178.out)|exact HB.out)) hb);clear BK177;clear BK178;clear HB;have BK177:=n0_;have BK178:=n1_;have HB:=n2_;clear n0_ n1_ n2_;(try clear hb);(try clear hb2);(try clear hk);(try clear hi)))
  go_ret2
  exact ⟨_,by first|rfl|(simp [errW_none,errW_some] <;> rfl)|(simp [*,errW_none,errW_some] <;> rfl),by first|exact Kd.S_nil _ _ _ _ _|exact Kd.N_nil _ _ _ _ _|exact Kd.V_nil _ _ _ _ _|exact Kd.Q_nil _ _ _ _ _|exact Kd.R_nil _ _ _ _ _,by repeat (first|(with_reducible first|exact HB.out|apply below_alloc|apply pw_below_drewN|apply below_drew1|refine below_set ?_ GE177.out|refine below_set ?_ GE178.out)|exact HB.out)⟩
 rw [if_neg c7] at H
 have c7b0 : decide (10000 < (l2.length : Int)) = false:=decide_eq_false c7
 have c7b1 : decide (10000 < l2.length) = false:=decide_eq_false (by omega)
 clear c7
 have HC14:=Aside0.mk H
 clear H
 go_enter Try.func26,Try.ntmps26
 go_upto_region 6 with (first|((with_reducible refine gate_dst (N:=4) rfl ?_);refine box_event ?hg (N:=4) ?hd (cs:=#[.int .i64 a0_0,.int .i64 a0_1]) (t:=43) ?hr ?_;(case hd => rfl);(case hg => rfl);(case hr => first|(go_simp;done)|(go_simp;rfl));intro gb177 hg w15 hbox hb;have n0_:=Aside0.mk (below_step (by repeat (first|(with_reducible first|exact HB.out|apply below_alloc|apply pw_below_drewN|apply below_drew1)|exact HB.out)) hb);have n1_:=Aside0.mk (hbox);have n2_:=Aside0.mk ((by rw [hg];exact (below_size (by repeat (first|(with_reducible first|exact HB.out|apply below_alloc|apply pw_below_drewN|apply below_drew1)|exact HB.out))) : w.heap.size ≤ gb177));have n3_:=Aside0.mk ((by rw [hg];exact (below_size (by repeat (first|(with_reducible first|exact HB.out|apply below_alloc|apply pw_below_drewN|apply below_drew1)|exact HB.out))) : w.heap.size ≤ gb177));clear HB;have HB:=n0_;have BK177:=n1_;have GW177:=n2_;have GE177:=n3_;clear n0_ n1_ n2_ n3_;clear hb hbox hg)|((with_reducible refine gate_dst (N:=5) rfl ?_);refine box_event ?hg (N:=5) ?hd (cs:=#[.slice A1_0 l1_0.length c1_0,.int .i64 a1_1,.int .i64 a1_2]) (t:=32) ?hr ?_;(case hd => rfl);(case hg => rfl);(case hr => first|(go_simp;done)|(go_simp;rfl));intro gb178 hg w16 hbox hb;have n0_:=Aside0.mk (blk_below (g:=gb177) (o:=.cells #[.int .i64 a0_0,.int .i64 a0_1] 43 (0,0)) (by (with_reducible repeat (first|refine blk_drewN ?_ _|refine blk_drew ?_|refine blk_alloc ?_ _));exact BK177.out) hb);have n1_:=Aside0.mk (below_step (by repeat (first|(with_reducible first|exact HB.out|apply below_alloc|apply pw_below_drewN|apply below_drew1|refine below_set ?_ GE177.out)|exact HB.out)) hb);have n2_:=Aside0.mk (hbox);have n3_:=Aside0.mk ((by rw [hg];exact (below_size (by repeat (first|(with_reducible first|exact HB.out|apply below_alloc|apply pw_below_drewN|apply below_drew1|refine below_set ?_ GE177.out)|exact HB.out))) : w.heap.size ≤ gb178));have n4_:=Aside0.mk ((by rw [hg];exact (below_size (by repeat (first|(with_reducible first|exact HB.out|apply below_alloc|apply pw_below_drewN|apply below_drew1|refine below_set ?_ GE177.out)|exact HB.out))) : w.heap.size ≤ gb178));have n5_:=Aside0.mk ((by rw [hg];exact Nat.ne_of_lt (blk_lt (g:=gb177) (o:=.cells #[.int .i64 a0_0,.int .i64 a0_1] 43 (0,0)) (by (with_reducible repeat (first|refine blk_drewN ?_ _|refine blk_drew ?_|refine blk_alloc ?_ _));exact BK177.out)) : gb177 ≠ gb178));have n6_:=Aside0.mk ((by rw [hg];exact Nat.ne_of_gt (blk_lt (g:=gb177) (o:=.cells #[.int .i64 a0_0,.int .i64 a0_1] 43 (0,0)) (by (with_reducible repeat (first|refine blk_drewN ?_ _|refine blk_drew ?_|refine blk_alloc ?_ _));exact BK177.out)) : gb178 ≠ gb177));clear BK177;clear HB;have BK177:=n0_;have HB:=n1_;have BK178:=n2_;have GW178:=n3_;have GE178:=n4_;have NB177_178:=n5_;have NB178_177:=n6_;clear n0_ n1_ n2_ n3_ n4_ n5_ n6_;clear hb hbox hg;have hnb17:=NB177_178.out;have hnc17:=NB178_177.out;have hcz18_0 : w16.cell? ⟨gb177,0,none⟩ = some (.int .i64 a0_0):=(blk_cell BK177.out 0).trans rfl;have hcz18_1 : w16.cell? ⟨gb177,1,none⟩ = some (.int .i64 a0_1):=(blk_cell BK177.out 1).trans rfl;have hfz18_0:=blk_frozen BK177.out 0;have hfz18_1:=blk_frozen BK177.out 1;have hcz19_0 : w16.cell? ⟨gb178,0,none⟩ = some (.slice A1_0 l1_0.length c1_0):=(blk_cell BK178.out 0).trans rfl;have hcz19_1 : w16.cell? ⟨gb178,1,none⟩ = some (.int .i64 a1_1):=(blk_cell BK178.out 1).trans rfl;have hcz19_2 : w16.cell? ⟨gb178,2,none⟩ = some (.int .i64 a1_2):=(blk_cell BK178.out 2).trans rfl;have hfz19_0:=blk_frozen BK178.out 0;have hfz19_1:=blk_frozen BK178.out 1;have hfz19_2:=blk_frozen BK178.out 2)|((with_reducible refine gate_callee (f:=14) rfl ?_);refine goesL_ (some 19) rfl rfl Try.func14 (by kernel_rfl) rfl #[.agg #[.int .i64 a0_0,.int .i64 a0_1],.agg #[.slice A1_0 l1_0.length c1_0,.int .i64 a1_1,.int .i64 a1_2]] rfl (by (try simp only [List.map_toArray,List.map_cons,List.map_nil]);first|done|rfl|(simp only [List.length_drop,List.length_take];rfl)) ?_;(with_reducible refine (leadlag_Check.calls k a0_0 a0_1 _ _ l1_0 a1_1 a1_2 t179 _ ?side1 ?side2 A5.out).mono ?_);(case side1 => repeat (first|exact (Kd.C_below HR1_0.out HB.out)|(with_reducible refine Kd.C_alloc ?_ _)|(with_reducible refine Kd.C_drewN ?_ _)|(with_reducible refine Kd.C_drew ?_)));(case side2 => exact HC1_0.out);rintro e w20 ⟨rfl,hb⟩;refine ⟨_,rfl,?_⟩;have n0_:=Aside0.mk (blk_below (g:=gb177) (o:=.cells #[.int .i64 a0_0,.int .i64 a0_1] 43 (0,0)) (by (with_reducible repeat (first|refine blk_drewN ?_ _|refine blk_drew ?_|refine blk_alloc ?_ _));exact BK177.out) hb);have n1_:=Aside0.mk (blk_below (g:=gb178) (o:=.cells #[.slice A1_0 l1_0.length c1_0,.int .i64 a1_1,.int .i64 a1_2] 32 (0,0)) (by (with_reducible repeat (first|refine blk_drewN ?_ _|refine blk_drew ?_|refine blk_alloc ?_ _));exact BK178.out) hb);have n2_:=Aside0.mk (below_step (by repeat (first|(with_reducible first|exact HB.out|apply below_alloc|apply pw_below_drewN|apply below_drew1|refine below_set ?_ GE177.out|refine below_set ?_ GE178.out)|exact HB.out)) hb);clear BK177;clear BK178;clear HB;have BK177:=n0_;have BK178:=n1_;have HB:=n2_;clear n0_ n1_ n2_;(try clear hb);(try clear hb2);(try clear hk);(try clear hi)))
 (try simp only [Act.put,List.setIfInBounds_toArray,List.set_cons_zero,List.set_cons_succ])
 go_cut [42] (fun v42 wc => ∃ (kq : Nat) (x42_13 : Bool),v42 = .bool x42_13∧Aside0 (leadlag_Play.j0 kq l2 a3 x42_13 a0_0 a0_1 l1_0 a1_1 a1_2 = some (r1,r2))∧Aside0 (kq ≤ k)∧Aside0 (wc.heap[gb177]? = some (.cells #[.int .i64 a0_0,.int .i64 a0_1] 43 (0,0)))∧Aside0 (wc.heap[gb178]? = some (.cells #[(.slice A1_0 l1_0.length c1_0),.int .i64 a1_1,.int .i64 a1_2] 32 (0,0)))∧Aside0 (Below w.heap.size w wc))
 case first =>
  have H:=HC14.out
  clear HC14
  by_cases c21 : (l2.length : Int) > 0
  rotate_left
  ·rw [if_neg c21] at H
   have c21b0 : decide (0 < (l2.length : Int)) = false:=decide_eq_false c21
   have c21b1 : decide (0 < l2.length) = false:=decide_eq_false (by omega)
   clear c21
   (first|rw [c21b0]|(simp only [i64_w,i32_w];rw [c21b0])|skip)
   have H':=Aside0.mk H
   clear H
   go_wp2
   go_meet
   case rel => exact ⟨_,(false),(by first|rfl|(simp;done)|(simp [*];done)),H',⟨by first|omega|exact Nat.le_refl _⟩,⟨by (with_reducible repeat (first|refine blk_drewN ?_ _|refine blk_drew ?_|refine blk_alloc ?_ _));exact BK177.out⟩,⟨by (with_reducible repeat (first|refine blk_drewN ?_ _|refine blk_drew ?_|refine blk_alloc ?_ _));exact BK178.out⟩,⟨by repeat (first|(with_reducible first|exact HB.out|apply below_alloc|apply pw_below_drewN|apply below_drew1|refine below_set ?_ GE177.out|refine below_set ?_ GE178.out)|exact HB.out)⟩⟩
  rw [if_pos c21] at H
  have c21b0 : decide (0 < (l2.length : Int)) = true:=decide_eq_true c21
  have c21b1 : decide (0 < l2.length) = true:=decide_eq_true (by omega)
  clear c21
  (first|rw [c21b0]|(simp only [i64_w,i32_w];rw [c21b0])|skip)
  replace H:=Option.bind_eq_some_iff.mp H
  obtain ⟨t180,A220,H⟩:=H
  replace H : (if t180 = true then (leadlag_Play.j0 k l2 a3 (decide ((wrap64 ((wrap64 (a3 + (l2.length : Int))) - 1)) > 6311433599)) a0_0 a0_1 l1_0 a1_1 a1_2) else (leadlag_Play.j0 k l2 a3 true a0_0 a0_1 l1_0 a1_1 a1_2)) = some (r1,r2):=H
  have A22:=Aside0.mk A220
  clear A220
  by_cases c23 : t180 = true
  ·subst c23
   have H1 : (leadlag_Play.j0 k l2 a3 (decide ((wrap64 ((wrap64 (a3 + (l2.length : Int))) - 1)) > 6311433599)) a0_0 a0_1 l1_0 a1_1 a1_2) = some (r1,r2):=by rw [if_pos rfl] at H;exact H
   clear H
   have H:=H1
   clear H1
   have H':=Aside0.mk H
   clear H
   have hnb24:=NB178_177.out
   have hnc24:=NB177_178.out
   have hcz25_0 : w20.cell? ⟨gb178,0,none⟩ = some (.slice A1_0 l1_0.length c1_0):=(blk_cell BK178.out 0).trans rfl
   have hcz25_1 : w20.cell? ⟨gb178,1,none⟩ = some (.int .i64 a1_1):=(blk_cell BK178.out 1).trans rfl
   have hcz25_2 : w20.cell? ⟨gb178,2,none⟩ = some (.int .i64 a1_2):=(blk_cell BK178.out 2).trans rfl
   have hfz25_0:=blk_frozen BK178.out 0
   have hfz25_1:=blk_frozen BK178.out 1
   have hfz25_2:=blk_frozen BK178.out 2
   go_wp2_with (first|(go_at_call 41;(with_reducible refine (leadlag_timely.calls _ _ l1_0 a1_1 a1_2 a3 true _ ?side1 ?side2 A22.out).mono ?_);(case side1 => repeat (first|exact (Kd.C_below HR1_0.out HB.out)|(with_reducible refine Kd.C_alloc ?_ _)|(with_reducible refine Kd.C_drewN ?_ _)|(with_reducible refine Kd.C_drew ?_)));(case side2 => exact HC1_0.out);rintro e w26 ⟨rfl,hb⟩;have n0_:=Aside0.mk (blk_below (g:=gb177) (o:=.cells #[.int .i64 a0_0,.int .i64 a0_1] 43 (0,0)) (by (with_reducible repeat (first|refine blk_drewN ?_ _|refine blk_drew ?_|refine blk_alloc ?_ _));exact BK177.out) hb);have n1_:=Aside0.mk (blk_below (g:=gb178) (o:=.cells #[.slice A1_0 l1_0.length c1_0,.int .i64 a1_1,.int .i64 a1_2] 32 (0,0)) (by (with_reducible repeat (first|refine blk_drewN ?_ _|refine blk_drew ?_|refine blk_alloc ?_ _));exact BK178.out) hb);have n2_:=Aside0.mk (below_step (by repeat (first|(with_reducible first|exact HB.out|apply below_alloc|apply pw_below_drewN|apply below_drew1|refine below_set ?_ GE177.out|refine below_set ?_ GE178.out)|exact HB.out)) hb);clear BK177;clear BK178;clear HB;have BK177:=n0_;have BK178:=n1_;have HB:=n2_;clear n0_ n1_ n2_;(try clear hb);(try clear hb2);(try clear hk);(try clear hi)))
   go_meet
   case rel => exact ⟨_,(decide ((wrap64 ((wrap64 (a3 + (l2.length : Int))) - 1)) > 6311433599)),(by first|rfl|(simp;done)|(simp [*];done)),H',⟨by first|omega|exact Nat.le_refl _⟩,⟨by (with_reducible repeat (first|refine blk_drewN ?_ _|refine blk_drew ?_|refine blk_alloc ?_ _));exact BK177.out⟩,⟨by (with_reducible repeat (first|refine blk_drewN ?_ _|refine blk_drew ?_|refine blk_alloc ?_ _));exact BK178.out⟩,⟨by repeat (first|(with_reducible first|exact HB.out|apply below_alloc|apply pw_below_drewN|apply below_drew1|refine below_set ?_ GE177.out|refine below_set ?_ GE178.out)|exact HB.out)⟩⟩
  replace c23:=Bool.eq_false_iff.mpr c23
  subst c23
  have H1 : (leadlag_Play.j0 k l2 a3 true a0_0 a0_1 l1_0 a1_1 a1_2) = some (r1,r2):=by rw [if_neg (show ¬ (false = true) by decide)] at H;exact H
  clear H
  have H:=H1
  clear H1
  have H':=Aside0.mk H
  clear H
  have hnb27:=NB178_177.out
  have hnc27:=NB177_178.out
  have hcz28_0 : w20.cell? ⟨gb178,0,none⟩ = some (.slice A1_0 l1_0.length c1_0):=(blk_cell BK178.out 0).trans rfl
  have hcz28_1 : w20.cell? ⟨gb178,1,none⟩ = some (.int .i64 a1_1):=(blk_cell BK178.out 1).trans rfl
  have hcz28_2 : w20.cell? ⟨gb178,2,none⟩ = some (.int .i64 a1_2):=(blk_cell BK178.out 2).trans rfl
  have hfz28_0:=blk_frozen BK178.out 0
  have hfz28_1:=blk_frozen BK178.out 1
  have hfz28_2:=blk_frozen BK178.out 2
  go_wp2_with (first|(go_at_call 41;(with_reducible refine (leadlag_timely.calls _ _ l1_0 a1_1 a1_2 a3 false _ ?side1 ?side2 A22.out).mono ?_);(case side1 => repeat (first|exact (Kd.C_below HR1_0.out HB.out)|(with_reducible refine Kd.C_alloc ?_ _)|(with_reducible refine Kd.C_drewN ?_ _)|(with_reducible refine Kd.C_drew ?_)));(case side2 => exact HC1_0.out);rintro e w29 ⟨rfl,hb⟩;have n0_:=Aside0.mk (blk_below (g:=gb177) (o:=.cells #[.int .i64 a0_0,.int .i64 a0_1] 43 (0,0)) (by (with_reducible repeat (first|refine blk_drewN ?_ _|refine blk_drew ?_|refine blk_alloc ?_ _));exact BK177.out) hb);have n1_:=Aside0.mk (blk_below (g:=gb178) (o:=.cells #[.slice A1_0 l1_0.length c1_0,.int .i64 a1_1,.int .i64 a1_2] 32 (0,0)) (by (with_reducible repeat (first|refine blk_drewN ?_ _|refine blk_drew ?_|refine blk_alloc ?_ _));exact BK178.out) hb);have n2_:=Aside0.mk (below_step (by repeat (first|(with_reducible first|exact HB.out|apply below_alloc|apply pw_below_drewN|apply below_drew1|refine below_set ?_ GE177.out|refine below_set ?_ GE178.out)|exact HB.out)) hb);clear BK177;clear BK178;clear HB;have BK177:=n0_;have BK178:=n1_;have HB:=n2_;clear n0_ n1_ n2_;(try clear hb);(try clear hb2);(try clear hk);(try clear hi)))
  go_meet
  case rel => exact ⟨_,(true),(by first|rfl|(simp;done)|(simp [*];done)),H',⟨by first|omega|exact Nat.le_refl _⟩,⟨by (with_reducible repeat (first|refine blk_drewN ?_ _|refine blk_drew ?_|refine blk_alloc ?_ _));exact BK177.out⟩,⟨by (with_reducible repeat (first|refine blk_drewN ?_ _|refine blk_drew ?_|refine blk_alloc ?_ _));exact BK178.out⟩,⟨by repeat (first|(with_reducible first|exact HB.out|apply below_alloc|apply pw_below_drewN|apply below_drew1|refine below_set ?_ GE177.out|refine below_set ?_ GE178.out)|exact HB.out)⟩⟩
 case rest =>
  clear HC14
  (try clear c1);(try clear c2);(try clear p2);(try clear c6);(try clear c6b0);(try clear c6b1);(try clear p6);(try clear c7);(try clear c7b0);(try clear c7b1);(try clear c10);(try clear c14);(try clear c17);(try clear c21);(try clear c21b0);(try clear c21b1);(try clear c23);(try clear c24);(try clear c26);(try clear c27);(try clear hcz11_0);(try clear hcz11_1);(try clear hcz12_0);(try clear hcz12_1);(try clear hcz12_2);(try clear hcz18_0);(try clear hcz18_1);(try clear hcz19_0);(try clear hcz19_1);(try clear hcz19_2);(try clear hcz25_0);(try clear hcz25_1);(try clear hcz25_2);(try clear hcz28_0);(try clear hcz28_1);(try clear hcz28_2);(try clear hfz11_0);(try clear hfz11_1);(try clear hfz12_0);(try clear hfz12_1);(try clear hfz12_2);(try clear hfz18_0);(try clear hfz18_1);(try clear hfz19_0);(try clear hfz19_1);(try clear hfz19_2);(try clear hfz25_0);(try clear hfz25_1);(try clear hfz25_2);(try clear hfz28_0);(try clear hfz28_1);(try clear hfz28_2)
  obtain ⟨kq,x42_13,rfl,HA,HJ13,BK177,BK178,HB⟩:=hcut
  cases kq with
  | zero => exact absurd HA.out (by simp [leadlag_Play.j0])
  | succ kj13 =>
   have H:=HA.out
   clear HA
   simp only [leadlag_Play.j0] at H
   by_cases c30 : x42_13 = true
   ·subst c30
    have H1 : (some (([] : List (S32)),6)) = some (r1,r2):=by rw [if_pos rfl] at H;exact H
    clear H
    have H:=H1
    clear H1
    simp only [Option.some.injEq,Prod.mk.injEq] at H
    obtain ⟨rfl,rfl⟩:=H
    go_wp2
    go_ret2
    exact ⟨_,by first|rfl|(simp [errW_none,errW_some] <;> rfl)|(simp [*,errW_none,errW_some] <;> rfl),by first|exact Kd.S_nil _ _ _ _ _|exact Kd.N_nil _ _ _ _ _|exact Kd.V_nil _ _ _ _ _|exact Kd.Q_nil _ _ _ _ _|exact Kd.R_nil _ _ _ _ _,by repeat (first|(with_reducible first|exact HB.out|apply below_alloc|apply pw_below_drewN|apply below_drew1|refine below_set ?_ GE177.out|refine below_set ?_ GE178.out)|exact HB.out)⟩
   replace c30:=Bool.eq_false_iff.mpr c30
   subst c30
   have H1 : (if 0 ≤ (l1_0.length : Int) then (if ((l1_0.length : Int) : Int).toNat ≤ 281474976710656 then (leadlag_Play.l0 kj13 l2 a3 (List.replicate ((l1_0.length : Int) : Int).toNat false) l1_0 (l1_0.length : Int) 0 a0_0 a0_1 l1_0 a1_1 a1_2) else (none)) else (none)) = some (r1,r2):=by rw [if_neg (show ¬ (false = true) by decide)] at H;exact H
   clear H
   have H:=H1
   clear H1
   by_cases c31 : 0 ≤ (l1_0.length : Int)
   rotate_left
   ·rw [if_neg c31] at H
    exact absurd H (by simp)
   rw [if_pos c31] at H
   have c31b0:=eq_true c31
   have c31b1 : decide (0 ≤ (l1_0.length : Int)) = true:=decide_eq_true c31
   clear c31
   by_cases c32 : ((l1_0.length : Int) : Int).toNat ≤ 281474976710656
   rotate_left
   ·rw [if_neg c32] at H
    exact absurd H (by simp)
   rw [if_pos c32] at H
   have c32b0:=eq_true c32
   have c32b1 : decide (((l1_0.length : Int) : Int).toNat ≤ 281474976710656) = true:=decide_eq_true c32
   clear c32
   obtain ⟨y181,hy181⟩ : ∃ y_ : List Bool,y_ = (List.replicate ((l1_0.length : Int) : Int).toNat false):=⟨_,rfl⟩
   replace H : (leadlag_Play.l0 kj13 l2 a3 y181 l1_0 (l1_0.length : Int) 0 a0_0 a0_1 l1_0 a1_1 a1_2) = some (r1,r2):=by first|(rw [hy181];with_reducible exact H)|(have H2_:=(Option.bind_some _ _).symm.trans H;rw [hy181];with_reducible exact H2_)|(have H2_:=(Option.bind_some _ _).symm.trans H;with_reducible exact H2_)|with_reducible exact H|(rw [hy181];exact H)|exact H
   have Ny181:=Aside0.mk hy181
   clear hy181
   have H':=Aside0.mk H
   clear H
   have hnb33:=NB178_177.out
   have hnc33:=NB177_178.out
   have hcz34_0 : wc.cell? ⟨gb178,0,none⟩ = some (.slice A1_0 l1_0.length c1_0):=(blk_cell BK178.out 0).trans rfl
   have hcz34_1 : wc.cell? ⟨gb178,1,none⟩ = some (.int .i64 a1_1):=(blk_cell BK178.out 1).trans rfl
   have hcz34_2 : wc.cell? ⟨gb178,2,none⟩ = some (.int .i64 a1_2):=(blk_cell BK178.out 2).trans rfl
   have hfz34_0:=blk_frozen BK178.out 0
   have hfz34_1:=blk_frozen BK178.out 1
   have hfz34_2:=blk_frozen BK178.out 2
   go_wp2_with (first|((with_reducible refine gate_dst (N:=46) rfl ?_);refine Kd.R_make Kd.bool _ 4 rfl (N:=46) rfl 64 _ _ rfl (l1_0.length : Int) rfl rfl Try.underlying64 (.bool false) 1 info4 rfl (by decide) (by omega) false (ok:=fun _ => True) (okp:=fun _ => True) rfl (fun _ hk => hk) trivial (of_decide_eq_true (by first|(with_reducible assumption)|assumption)) (Nat.le_trans (Nat.mul_le_mul_right _ (of_decide_eq_true (by first|(with_reducible assumption)|assumption) : (l1_0.length : Int).toNat ≤ 281474976710656)) (by omega)) (Below.refl _ _) (Nat.le_refl _) ?_;intro v182 w35 ho36 hb hg_ hnew_;clear hg_ hnew_;(first|rw [← Ny181.out] at ho36|(simp only [Int.reduceToNat] at ho36;rw [← Ny181.out] at ho36));have n0_:=Aside0.mk (Kd.R_lower ho36 (below_size (by repeat (first|(with_reducible first|exact HB.out|apply below_alloc|apply pw_below_drewN|apply below_drew1|refine below_set ?_ GE177.out|refine below_set ?_ GE178.out)|exact HB.out))));have n1_:=Aside0.mk (blk_below (g:=gb177) (o:=.cells #[.int .i64 a0_0,.int .i64 a0_1] 43 (0,0)) (by (with_reducible repeat (first|refine blk_drewN ?_ _|refine blk_drew ?_|refine blk_alloc ?_ _));exact BK177.out) hb);have n2_:=Aside0.mk (blk_below (g:=gb178) (o:=.cells #[.slice A1_0 l1_0.length c1_0,.int .i64 a1_1,.int .i64 a1_2] 32 (0,0)) (by (with_reducible repeat (first|refine blk_drewN ?_ _|refine blk_drew ?_|refine blk_alloc ?_ _));exact BK178.out) hb);have n3_:=Aside0.mk (below_step (by repeat (first|(with_reducible first|exact HB.out|apply below_alloc|apply pw_below_drewN|apply below_drew1|refine below_set ?_ GE177.out|refine below_set ?_ GE178.out)|exact HB.out)) hb);clear BK177;clear BK178;clear HB;have HO183:=n0_;have BK177:=n1_;have BK178:=n2_;have HB:=n3_;clear n0_ n1_ n2_ n3_;clear hb ho36;have hcz37_0 : w35.cell? ⟨gb178,0,none⟩ = some (.slice A1_0 l1_0.length c1_0):=(blk_cell BK178.out 0).trans rfl;have hcz37_1 : w35.cell? ⟨gb178,1,none⟩ = some (.int .i64 a1_1):=(blk_cell BK178.out 1).trans rfl;have hcz37_2 : w35.cell? ⟨gb178,2,none⟩ = some (.int .i64 a1_2):=(blk_cell BK178.out 2).trans rfl;have hfz37_0:=blk_frozen BK178.out 0;have hfz37_1:=blk_frozen BK178.out 1;have hfz37_2:=blk_frozen BK178.out 2))
   go_loopg [50] kj13 (fun kq v50 w' => ∃ (x11_2 : List Bool) (x50_2 : Int),v50 = .int .i64 x50_2∧Aside0 (leadlag_Play.l0 kq l2 a3 x11_2 l1_0 (l1_0.length : Int) x50_2 a0_0 a0_1 l1_0 a1_1 a1_2 = some (r1,r2))∧Aside0 (kq ≤ kj13)∧Aside0 (Kd.R Kd.bool 4 w' w.heap.size (fun _ => True) v182 x11_2)∧Aside0 (w'.heap[gb177]? = some (.cells #[.int .i64 a0_0,.int .i64 a0_1] 43 (0,0)))∧Aside0 (w'.heap[gb178]? = some (.cells #[(.slice A1_0 l1_0.length c1_0),.int .i64 a1_1,.int .i64 a1_2] 32 (0,0)))∧Aside0 (Below w.heap.size w w'))
   case atStart => exact ⟨(y181),(0),(by first|rfl|(simp;done)|(simp [*];done)),H',⟨Nat.le_refl _⟩,⟨by (with_reducible repeat (first|apply Kd.R_alloc|apply Kd.R_drewN|apply Kd.R_drew));exact HO183.out⟩,⟨by (with_reducible repeat (first|refine blk_drewN ?_ _|refine blk_drew ?_|refine blk_alloc ?_ _));exact BK177.out⟩,⟨by (with_reducible repeat (first|refine blk_drewN ?_ _|refine blk_drew ?_|refine blk_alloc ?_ _));exact BK178.out⟩,⟨by repeat (first|(with_reducible first|exact HB.out|apply below_alloc|apply pw_below_drewN|apply below_drew1|refine below_set ?_ GE177.out|refine below_set ?_ GE178.out)|exact HB.out)⟩⟩
   case round =>
    clear H'
    (try clear c1);(try clear c2);(try clear p2);(try clear c3);(try clear c6);(try clear c6b0);(try clear c6b1);(try clear p6);(try clear c7);(try clear c7b0);(try clear c7b1);(try clear c10);(try clear c14);(try clear c17);(try clear c21);(try clear c21b0);(try clear c21b1);(try clear c23);(try clear c24);(try clear c26);(try clear c27);(try clear c30);(try clear c31);(try clear c31b0);(try clear c31b1);(try clear c32);(try clear c32b0);(try clear c32b1);(try clear c33);(try clear hcz11_0);(try clear hcz11_1);(try clear hcz12_0);(try clear hcz12_1);(try clear hcz12_2);(try clear hcz18_0);(try clear hcz18_1);(try clear hcz19_0);(try clear hcz19_1);(try clear hcz19_2);(try clear hcz25_0);(try clear hcz25_1);(try clear hcz25_2);(try clear hcz28_0);(try clear hcz28_1);(try clear hcz28_2);(try clear hcz34_0);(try clear hcz34_1);(try clear hcz34_2);(try clear hcz37_0);(try clear hcz37_1);(try clear hcz37_2);(try clear hfz11_0);(try clear hfz11_1);(try clear hfz12_0);(try clear hfz12_1);(try clear hfz12_2);(try clear hfz18_0);(try clear hfz18_1);(try clear hfz19_0);(try clear hfz19_1);(try clear hfz19_2);(try clear hfz25_0);(try clear hfz25_1);(try clear hfz25_2);(try clear hfz28_0);(try clear hfz28_1);(try clear hfz28_2);(try clear hfz34_0);(try clear hfz34_1);(try clear hfz34_2);(try clear hfz37_0);(try clear hfz37_1);(try clear hfz37_2);(try clear p2);(try clear p6)
    obtain ⟨x11_2,x50_2,rfl,HA,HK2,HO_11,BK177,BK178,HB⟩:=hrel
    cases gk with
    | zero => exact absurd HA.out (by simp [leadlag_Play.l0])
    | succ k2 =>
     have H:=HA.out
     clear HA
     simp only [leadlag_Play.l0] at H
     by_cases c38 : x50_2 < (l1_0.length : Int)
     ·rw [if_pos c38] at H
      have c38b0 : decide (x50_2 < (l1_0.length : Int)) = true:=decide_eq_true c38
      clear c38
      by_cases c39 : 0 ≤ x50_2
      rotate_left
      ·rw [if_neg c39] at H
       exact absurd H (by simp)
      rw [if_pos c39] at H
      have c39b0 : decide (0 ≤ x50_2) = true:=decide_eq_true c39
      clear c39
      by_cases c40 : x50_2 < (l1_0.length : Int)
      rotate_left
      ·rw [if_neg c40] at H
       exact absurd H (by simp)
      rw [if_pos c40] at H
      have c40b0 : decide (x50_2 < (l1_0.length : Int)) = true:=decide_eq_true c40
      clear c40
      by_cases c41 : x50_2 < (x11_2.length : Int)
      rotate_left
      ·rw [if_neg c41] at H
       exact absurd H (by simp)
      rw [if_pos c41] at H
      have c41b0 : decide (x50_2 < (x11_2.length : Int)) = true:=decide_eq_true c41
      clear c41
      obtain ⟨y186,hy186⟩ : ∃ y_ : List Bool,y_ = (x11_2.set (x50_2 : Int).toNat ((rd_T62 l1_0 x50_2).f2)):=⟨_,rfl⟩
      replace H : (leadlag_Play.l0 k2 l2 a3 y186 l1_0 (l1_0.length : Int) (wrap64 (x50_2 + 1)) a0_0 a0_1 l1_0 a1_1 a1_2) = some (r1,r2):=by first|(rw [hy186];with_reducible exact H)|(have H2_:=(Option.bind_some _ _).symm.trans H;rw [hy186];with_reducible exact H2_)|(have H2_:=(Option.bind_some _ _).symm.trans H;with_reducible exact H2_)|with_reducible exact H|(rw [hy186];exact H)|exact H
      have Ny186:=Aside0.mk hy186
      clear hy186
      have H':=Aside0.mk H
      clear H
      have p184 : 0 ≤ (x50_2 : Int):=of_decide_eq_true (by first|(with_reducible assumption)|assumption)
      have q184 : x50_2 < (l1_0.length : Int):=of_decide_eq_true (by first|(with_reducible assumption)|assumption)
      obtain ⟨ad184,e184,hx184_0,hx184_1,hx184_2⟩:=at_T62 HR1_0.out x50_2 p184 q184
      cases e184
      replace hx184_0:=(HB.out.cell (World.block_lt_of_cell? w _ hx184_0)).trans hx184_0
      replace hx184_1:=(HB.out.cell (World.block_lt_of_cell? w _ hx184_1)).trans hx184_1
      replace hx184_2:=(HB.out.cell (World.block_lt_of_cell? w _ hx184_2)).trans hx184_2
      replace p184:=eq_true p184
      replace q184:=eq_true q184
      go_wp2_with (first|((with_reducible refine gate_dst (N:=13) rfl ?_);refine box_event ?hg (N:=13) ?hd (cs:=#[.int .i64 0,.bool false,.bool false]) (t:=62) ?hr ?_;(case hd => rfl);(case hg => rfl);(case hr => first|(go_simp;done)|(go_simp;rfl));intro gb185 hg w43 hbox hb;have n0_:=Aside0.mk (Kd.R_below (by (with_reducible repeat (first|apply Kd.R_alloc|apply Kd.R_drewN|apply Kd.R_drew));exact HO_11.out) hb);have n1_:=Aside0.mk (blk_below (g:=gb177) (o:=.cells #[.int .i64 a0_0,.int .i64 a0_1] 43 (0,0)) (by (with_reducible repeat (first|refine blk_drewN ?_ _|refine blk_drew ?_|refine blk_alloc ?_ _));exact BK177.out) hb);have n2_:=Aside0.mk (blk_below (g:=gb178) (o:=.cells #[.slice (some ad184) l1_0.length c1_0,.int .i64 a1_1,.int .i64 a1_2] 32 (0,0)) (by (with_reducible repeat (first|refine blk_drewN ?_ _|refine blk_drew ?_|refine blk_alloc ?_ _));exact BK178.out) hb);have n3_:=Aside0.mk (below_step (by repeat (first|(with_reducible first|exact HB.out|apply below_alloc|apply pw_below_drewN|apply below_drew1|refine below_set ?_ GE177.out|refine below_set ?_ GE178.out)|exact HB.out)) hb);have n4_:=Aside0.mk (hbox);have n5_:=Aside0.mk ((by rw [hg];exact (below_size (by repeat (first|(with_reducible first|exact HB.out|apply below_alloc|apply pw_below_drewN|apply below_drew1|refine below_set ?_ GE177.out|refine below_set ?_ GE178.out)|exact HB.out))) : w.heap.size ≤ gb185));have n6_:=Aside0.mk ((by rw [hg];exact (below_size (by repeat (first|(with_reducible first|exact HB.out|apply below_alloc|apply pw_below_drewN|apply below_drew1|refine below_set ?_ GE177.out|refine below_set ?_ GE178.out)|exact HB.out))) : w.heap.size ≤ gb185));have n7_:=Aside0.mk ((by rw [hg];exact Nat.ne_of_lt (blk_lt (g:=gb177) (o:=.cells #[.int .i64 a0_0,.int .i64 a0_1] 43 (0,0)) (by (with_reducible repeat (first|refine blk_drewN ?_ _|refine blk_drew ?_|refine blk_alloc ?_ _));exact BK177.out)) : gb177 ≠ gb185));have n8_:=Aside0.mk ((by rw [hg];exact Nat.ne_of_gt (blk_lt (g:=gb177) (o:=.cells #[.int .i64 a0_0,.int .i64 a0_1] 43 (0,0)) (by (with_reducible repeat (first|refine blk_drewN ?_ _|refine blk_drew ?_|refine blk_alloc ?_ _));exact BK177.out)) : gb185 ≠ gb177));have n9_:=Aside0.mk ((by rw [hg];exact Nat.ne_of_lt (blk_lt (g:=gb178) (o:=.cells #[.slice (some ad184) l1_0.length c1_0,.int .i64 a1_1,.int .i64 a1_2] 32 (0,0)) (by (with_reducible repeat (first|refine blk_drewN ?_ _|refine blk_drew ?_|refine blk_alloc ?_ _));exact BK178.out)) : gb178 ≠ gb185));have n10_:=Aside0.mk ((by rw [hg];exact Nat.ne_of_gt (blk_lt (g:=gb178) (o:=.cells #[.slice (some ad184) l1_0.length c1_0,.int .i64 a1_1,.int .i64 a1_2] 32 (0,0)) (by (with_reducible repeat (first|refine blk_drewN ?_ _|refine blk_drew ?_|refine blk_alloc ?_ _));exact BK178.out)) : gb185 ≠ gb178));clear HO_11;clear BK177;clear BK178;clear HB;have HO_11:=n0_;have BK177:=n1_;have BK178:=n2_;have HB:=n3_;have BK185:=n4_;have GW185:=n5_;have GE185:=n6_;have NB177_185:=n7_;have NB185_177:=n8_;have NB178_185:=n9_;have NB185_178:=n10_;clear n0_ n1_ n2_ n3_ n4_ n5_ n6_ n7_ n8_ n9_ n10_;clear hb hbox hg;have hnb44:=NB185_177.out;have hnc44:=NB177_185.out;have hnb45:=NB185_178.out;have hnc45:=NB178_185.out;have hcz46_0 : w43.cell? ⟨gb185,0,none⟩ = some (.int .i64 0):=(blk_cell BK185.out 0).trans rfl;have hcz46_1 : w43.cell? ⟨gb185,1,none⟩ = some (.bool false):=(blk_cell BK185.out 1).trans rfl;have hcz46_2 : w43.cell? ⟨gb185,2,none⟩ = some (.bool false):=(blk_cell BK185.out 2).trans rfl;have hfz46_0:=blk_frozen BK185.out 0;have hfz46_1:=blk_frozen BK185.out 1;have hfz46_2:=blk_frozen BK185.out 2)|((with_reducible refine gate_store (t:=62) (p:=13) rfl ?_);refine store_event (t:=62) (p:=13) (v:=?vo_w47) (w1:=(((w43.setCell ⟨gb185,0,none⟩ (.int .i64 ((rd_T62 l1_0 x50_2).f0))).setCell ⟨gb185,1,none⟩ (.bool ((rd_T62 l1_0 x50_2).f1))).setCell ⟨gb185,2,none⟩ (.bool ((rd_T62 l1_0 x50_2).f2)))) ?hg ?ho ?hn ?hr ?_;(case ho => rfl);(case hg => rfl);(case hn => rfl);(case hr => first|(go_simp;done)|(go_simp;rfl));intro w47 hw;have n0_ : Aside0 (Kd.R Kd.bool 4 w47 w.heap.size (fun _ => True) v182 x11_2):=⟨(by rw [hw];exact (by (with_reducible repeat (first|apply Kd.R_alloc|apply Kd.R_drewN|apply Kd.R_drew));exact Kd.R_mono (Kd.R_far (p:=⟨gb185,2,none⟩) (Kd.R_far (p:=⟨gb185,1,none⟩) (Kd.R_far (p:=⟨gb185,0,none⟩) (Kd.R_types HO_11.out BK185.out (by decide)) (fun _ hk => hk.2) (.int .i64 ((rd_T62 l1_0 x50_2).f0))) (fun _ hk => hk.2) (.bool ((rd_T62 l1_0 x50_2).f1))) (fun _ hk => hk.2) (.bool ((rd_T62 l1_0 x50_2).f2))) (fun _ hk => trivial)))⟩;have n1_ : Aside0 (w47.heap[gb177]? = some (.cells #[.int .i64 a0_0,.int .i64 a0_1] 43 (0,0))):=⟨(by rw [hw];exact (by (with_reducible repeat (first|refine blk_drewN ?_ _|refine blk_drew ?_|refine blk_alloc ?_ _));refine blk_far ?_ NB177_185.out _;(with_reducible repeat (first|refine blk_drewN ?_ _|refine blk_drew ?_|refine blk_alloc ?_ _));refine blk_far ?_ NB177_185.out _;(with_reducible repeat (first|refine blk_drewN ?_ _|refine blk_drew ?_|refine blk_alloc ?_ _));refine blk_far ?_ NB177_185.out _;(with_reducible repeat (first|refine blk_drewN ?_ _|refine blk_drew ?_|refine blk_alloc ?_ _));exact BK177.out))⟩;have n2_ : Aside0 (w47.heap[gb178]? = some (.cells #[.slice (some ad184) l1_0.length c1_0,.int .i64 a1_1,.int .i64 a1_2] 32 (0,0))):=⟨(by rw [hw];exact (by (with_reducible repeat (first|refine blk_drewN ?_ _|refine blk_drew ?_|refine blk_alloc ?_ _));refine blk_far ?_ NB178_185.out _;(with_reducible repeat (first|refine blk_drewN ?_ _|refine blk_drew ?_|refine blk_alloc ?_ _));refine blk_far ?_ NB178_185.out _;(with_reducible repeat (first|refine blk_drewN ?_ _|refine blk_drew ?_|refine blk_alloc ?_ _));refine blk_far ?_ NB178_185.out _;(with_reducible repeat (first|refine blk_drewN ?_ _|refine blk_drew ?_|refine blk_alloc ?_ _));exact BK178.out))⟩;have n3_ : Aside0 (w47.heap[gb185]? = some (.cells #[.int .i64 ((rd_T62 l1_0 x50_2).f0),.bool ((rd_T62 l1_0 x50_2).f1),.bool ((rd_T62 l1_0 x50_2).f2)] 62 (0,0))):=⟨(by rw [hw];exact (by (with_reducible repeat (first|refine blk_drewN ?_ _|refine blk_drew ?_|refine blk_alloc ?_ _));refine blk_put (cs:=#[.int .i64 ((rd_T62 l1_0 x50_2).f0),.bool ((rd_T62 l1_0 x50_2).f1),.bool false]) ?_ 2 _ rfl;(with_reducible repeat (first|refine blk_drewN ?_ _|refine blk_drew ?_|refine blk_alloc ?_ _));refine blk_put (cs:=#[.int .i64 ((rd_T62 l1_0 x50_2).f0),.bool false,.bool false]) ?_ 1 _ rfl;(with_reducible repeat (first|refine blk_drewN ?_ _|refine blk_drew ?_|refine blk_alloc ?_ _));refine blk_put (cs:=#[.int .i64 0,.bool false,.bool false]) ?_ 0 _ rfl;(with_reducible repeat (first|refine blk_drewN ?_ _|refine blk_drew ?_|refine blk_alloc ?_ _));exact BK185.out))⟩;have n4_ : Aside0 (Below w.heap.size w w47):=⟨(by rw [hw];exact (by repeat (first|(with_reducible first|exact HB.out|apply below_alloc|apply pw_below_drewN|apply below_drew1|refine below_set ?_ GE177.out|refine below_set ?_ GE178.out|refine below_set ?_ GE185.out)|exact HB.out)))⟩;clear hw;clear HO_11;clear BK177;clear BK178;clear BK185;clear HB;have HO_11:=n0_;have BK177:=n1_;have BK178:=n2_;have BK185:=n3_;have HB:=n4_;clear n0_ n1_ n2_ n3_ n4_;have hcz48_0 : w47.cell? ⟨gb185,0,none⟩ = some (.int .i64 ((rd_T62 l1_0 x50_2).f0)):=(blk_cell BK185.out 0).trans rfl;have hcz48_1 : w47.cell? ⟨gb185,1,none⟩ = some (.bool ((rd_T62 l1_0 x50_2).f1)):=(blk_cell BK185.out 1).trans rfl;have hcz48_2 : w47.cell? ⟨gb185,2,none⟩ = some (.bool ((rd_T62 l1_0 x50_2).f2)):=(blk_cell BK185.out 2).trans rfl;have hfz48_0:=blk_frozen BK185.out 0;have hfz48_1:=blk_frozen BK185.out 1;have hfz48_2:=blk_frozen BK185.out 2;have p42 : 0 ≤ (x50_2 : Int):=of_decide_eq_true (by first|(with_reducible assumption)|assumption);have q42 : (x50_2 : Int) < ((x11_2.length : Int) : Int):=of_decide_eq_true (by first|(with_reducible assumption)|assumption);obtain ⟨go42,co42,eo42,gb42,gl42,cl42,HG42⟩:=Kd.R_form HO_11.out (by omega);(first|cases eo42|(injection eo42 with ea_ en_ ec_;(first|subst ea_|(injection ea_ with ea_;subst ea_));subst ec_;clear en_));have GB42:=Aside0.mk gb42;have GG42:=Aside0.mk HG42;clear gb42 gl42 HG42;obtain ⟨hx42_0,hf42_0⟩:=Kd.R_celln false HO_11.out (x50_2 : Int) p42 q42;replace p42:=eq_true p42;replace q42:=eq_true q42;obtain ⟨hy49_,hz49_⟩:=Kd.R_celln false HO_11.out (x50_2 : Int) (of_decide_eq_true (by first|(with_reducible assumption)|assumption)) (of_decide_eq_true (by first|(with_reducible assumption)|assumption));have HP49:=Kd.R_putg HO_11.out (x50_2 : Int) ((rd_T62 l1_0 x50_2).f2))|((with_reducible refine gate_store (t:=4) (p:=59) rfl ?_);refine store_event (t:=4) (p:=59) (v:=?vo_w50) (w1:=(w47.setCell ⟨go42,(x50_2 : Int).toNat,none⟩ (.bool ((rd_T62 l1_0 x50_2).f2)))) ?hg ?ho ?hn ?hr ?_;(case ho => rfl);(case hg => rfl);(case hn => rfl);(case hr => first|(go_simp;done)|(go_simp;rfl));intro w50 hw;have hg : w47.grownBy w50 (some go42):=(by rw [hw];exact HP49.2);have hp_ : Kd.R Kd.bool 4 w50 w.heap.size (fun _ => True) (.slice (some ⟨go42,0,none⟩) x11_2.length co42) y186:=(by rw [hw,Ny186.out];exact HP49.1);clear HP49;have n0_:=Aside0.mk (hp_);have n1_:=Aside0.mk (blk_grown (g:=gb177) (o:=.cells #[.int .i64 a0_0,.int .i64 a0_1] 43 (0,0)) (by (with_reducible repeat (first|refine blk_drewN ?_ _|refine blk_drew ?_|refine blk_alloc ?_ _));exact BK177.out) hg (Kd.R_ne HO_11.out BK177.out (by decide)));have n2_:=Aside0.mk (blk_grown (g:=gb178) (o:=.cells #[.slice (some ad184) l1_0.length c1_0,.int .i64 a1_1,.int .i64 a1_2] 32 (0,0)) (by (with_reducible repeat (first|refine blk_drewN ?_ _|refine blk_drew ?_|refine blk_alloc ?_ _));exact BK178.out) hg (Kd.R_ne HO_11.out BK178.out (by decide)));have n3_:=Aside0.mk (blk_grown (g:=gb185) (o:=.cells #[.int .i64 ((rd_T62 l1_0 x50_2).f0),.bool ((rd_T62 l1_0 x50_2).f1),.bool ((rd_T62 l1_0 x50_2).f2)] 62 (0,0)) (by (with_reducible repeat (first|refine blk_drewN ?_ _|refine blk_drew ?_|refine blk_alloc ?_ _));exact BK185.out) hg (Kd.R_ne HO_11.out BK185.out (by decide)));have n4_:=Aside0.mk ((by rw [hw];exact below_set (HB.out) GB42.out : Below w.heap.size w w50));clear HO_11;clear BK177;clear BK178;clear BK185;clear HB;have HO_11:=n0_;have BK177:=n1_;have BK178:=n2_;have BK185:=n3_;have HB:=n4_;clear n0_ n1_ n2_ n3_ n4_;clear hg hw hp_))
      go_roundg k2
      case measure => have:=HJ13.out;have:=HK2.out;omega
      case rel => exact ⟨(y186),(wrap64 (x50_2 + 1)),(by first|rfl|(simp;done)|(simp [*];done)),H',⟨by have:=HJ13.out;have:=HK2.out;omega⟩,⟨by (with_reducible repeat (first|apply Kd.R_alloc|apply Kd.R_drewN|apply Kd.R_drew));exact HO_11.out⟩,⟨by (with_reducible repeat (first|refine blk_drewN ?_ _|refine blk_drew ?_|refine blk_alloc ?_ _));exact BK177.out⟩,⟨by (with_reducible repeat (first|refine blk_drewN ?_ _|refine blk_drew ?_|refine blk_alloc ?_ _));exact BK178.out⟩,⟨by repeat (first|(with_reducible first|exact HB.out|apply below_alloc|apply pw_below_drewN|apply below_drew1|refine below_set ?_ GE177.out|refine below_set ?_ GE178.out|refine below_set ?_ GE185.out)|exact HB.out)⟩⟩
     rw [if_neg c38] at H
     have c38b0 : decide (x50_2 < (l1_0.length : Int)) = false:=decide_eq_false c38
     clear c38
     have H':=Aside0.mk H
     clear H
     go_wp2
     go_loopg [14,63] k2 (fun kq v14 v63 w' => ∃ (x14_3 : List (S32)) (x63_3 : Int) (us_ : List S62) (st_ tu_ : Int) (As_ : Option Addr) (cs_ : Nat),v63 = .int .i64 x63_3∧Aside0 (leadlag_Play.l1 kq a3 x11_2 x14_3 l2 (l2.length : Int) x63_3 a0_0 a0_1 us_ st_ tu_ = some (r1,r2))∧Aside0 (kq ≤ k2)∧Aside0 (Kd.R Kd.bool 4 w' w.heap.size (fun _ => True) v182 x11_2)∧Aside0 (Kd.S k32 32 w' w.heap.size (fun k_ => k_ ≠ gb178) v14 x14_3)∧Aside0 (w'.heap[gb177]? = some (.cells #[.int .i64 a0_0,.int .i64 a0_1] 43 (0,0)))∧Aside0 (w'.heap[gb178]? = some (.cells #[(.slice As_ us_.length cs_),.int .i64 st_,.int .i64 tu_] 32 (0,0)))∧Aside0 (us_.length ≤ cs_∧Kd.C k62 w' As_ us_.length us_)∧Aside0 (Below w.heap.size w w'))
     case atStart => exact ⟨(([] : List (S32))),(0),l1_0,a1_1,a1_2,A1_0,c1_0,(by first|rfl|(simp;done)|(simp [*];done)),H',⟨Nat.le_refl _⟩,⟨by (with_reducible repeat (first|apply Kd.R_alloc|apply Kd.R_drewN|apply Kd.R_drew));exact HO_11.out⟩,⟨by first|exact Kd.S_nil _ _ _ _ _|exact Kd.N_nil _ _ _ _ _|exact Kd.V_nil _ _ _ _ _|exact Kd.Q_nil _ _ _ _ _|exact Kd.R_nil _ _ _ _ _⟩,⟨by (with_reducible repeat (first|refine blk_drewN ?_ _|refine blk_drew ?_|refine blk_alloc ?_ _));exact BK177.out⟩,⟨by (with_reducible repeat (first|refine blk_drewN ?_ _|refine blk_drew ?_|refine blk_alloc ?_ _));exact BK178.out⟩,⟨HC1_0.out,Kd.C_below HR1_0.out (by repeat (first|(with_reducible first|exact HB.out|apply below_alloc|apply pw_below_drewN|apply below_drew1|refine below_set ?_ GE177.out|refine below_set ?_ GE178.out)|exact HB.out))⟩,⟨by repeat (first|(with_reducible first|exact HB.out|apply below_alloc|apply pw_below_drewN|apply below_drew1|refine below_set ?_ GE177.out|refine below_set ?_ GE178.out)|exact HB.out)⟩⟩
     case round =>
      clear H'
      (try clear c1);(try clear p1);(try clear q1);(try clear hx1);(try clear c2);(try clear p2);(try clear c3);(try clear c4);(try clear p4);(try clear q4);(try clear hx4);(try clear hf4);(try clear c6);(try clear c6b0);(try clear c6b1);(try clear p6);(try clear c7);(try clear c7b0);(try clear c7b1);(try clear c10);(try clear c14);(try clear c17);(try clear p18);(try clear q18);(try clear hx18);(try clear c21);(try clear c21b0);(try clear c21b1);(try clear c23);(try clear c24);(try clear c26);(try clear c27);(try clear c30);(try clear c31);(try clear c31b0);(try clear c31b1);(try clear c32);(try clear c32b0);(try clear c32b1);(try clear c33);(try clear c38);(try clear c38b0);(try clear c39);(try clear c39b0);(try clear c40);(try clear c40b0);(try clear c41);(try clear c41b0);(try clear p42);(try clear q42);(try clear hx42);(try clear hf42);(try clear c44);(try clear c45);(try clear hcz11_0);(try clear hcz11_1);(try clear hcz12_0);(try clear hcz12_1);(try clear hcz12_2);(try clear hcz18_0);(try clear hcz18_1);(try clear hcz19_0);(try clear hcz19_1);(try clear hcz19_2);(try clear hcz25_0);(try clear hcz25_1);(try clear hcz25_2);(try clear hcz28_0);(try clear hcz28_1);(try clear hcz28_2);(try clear hcz34_0);(try clear hcz34_1);(try clear hcz34_2);(try clear hcz37_0);(try clear hcz37_1);(try clear hcz37_2);(try clear hcz46_0);(try clear hcz46_1);(try clear hcz46_2);(try clear hcz48_0);(try clear hcz48_1);(try clear hcz48_2);(try clear hfz11_0);(try clear hfz11_1);(try clear hfz12_0);(try clear hfz12_1);(try clear hfz12_2);(try clear hfz18_0);(try clear hfz18_1);(try clear hfz19_0);(try clear hfz19_1);(try clear hfz19_2);(try clear hfz25_0);(try clear hfz25_1);(try clear hfz25_2);(try clear hfz28_0);(try clear hfz28_1);(try clear hfz28_2);(try clear hfz34_0);(try clear hfz34_1);(try clear hfz34_2);(try clear hfz37_0);(try clear hfz37_1);(try clear hfz37_2);(try clear hfz46_0);(try clear hfz46_1);(try clear hfz46_2);(try clear hfz48_0);(try clear hfz48_1);(try clear hfz48_2);(try clear hx184_0);(try clear hx184_1);(try clear hx184_2);(try clear hx42_0);(try clear p184);(try clear p2);(try clear p42);(try clear p6);(try clear q184);(try clear q42)
      obtain ⟨x14_3,x63_3,us_,st_,tu_,As_,cs_,rfl,HA,HK3,HO_11,HO_14,BK177,BK178,HS,HB⟩:=hrel
      cases gk with
      | zero => exact absurd HA.out (by simp [leadlag_Play.l1])
      | succ k3 =>
       have H:=HA.out
       clear HA
       simp only [leadlag_Play.l1] at H
       by_cases c51 : x63_3 < (l2.length : Int)
       rotate_left
       ·rw [if_neg c51] at H
        have c51b0 : decide (x63_3 < (l2.length : Int)) = false:=decide_eq_false c51
        clear c51
        simp only [Option.some.injEq,Prod.mk.injEq] at H
        obtain ⟨rfl,rfl⟩:=H
        go_wp2
        go_ret2
        exact ⟨_,by first|rfl|(simp [errW_none,errW_some] <;> rfl)|(simp [*,errW_none,errW_some] <;> rfl),by (with_reducible repeat (first|apply Kd.S_alloc|apply Kd.S_drewN|apply Kd.S_drew));exact Kd.S_mono HO_14.out (fun _ hk => trivial),by repeat (first|(with_reducible first|exact HB.out|apply below_alloc|apply pw_below_drewN|apply below_drew1|refine below_set ?_ GE177.out|refine below_set ?_ GE178.out)|exact HB.out)⟩
       rw [if_pos c51] at H
       have c51b0 : decide (x63_3 < (l2.length : Int)) = true:=decide_eq_true c51
       clear c51
       by_cases c52 : 0 ≤ x63_3
       rotate_left
       ·rw [if_neg c52] at H
        exact absurd H (by simp)
       rw [if_pos c52] at H
       have c52b0 : decide (0 ≤ x63_3) = true:=decide_eq_true c52
       clear c52
       by_cases c53 : x63_3 < (l2.length : Int)
       rotate_left
       ·rw [if_neg c53] at H
        exact absurd H (by simp)
       rw [if_pos c53] at H
       have c53b0 : decide (x63_3 < (l2.length : Int)) = true:=decide_eq_true c53
       clear c53
       replace H:=Option.bind_eq_some_iff.mp H
       obtain ⟨⟨t188,t191,t192⟩,A540,H⟩:=H
       replace H : (if x14_3.length < 3518437208883 then (leadlag_Play.l1 k3 a3 x11_2 (x14_3 ++ [(⟨t188,t191,t192⟩ : S32)]) l2 (l2.length : Int) (wrap64 (x63_3 + 1)) a0_0 a0_1 t188 t191 t192) else (none)) = some (r1,r2):=H
       have A54:=Aside0.mk A540
       clear A540
       by_cases c55 : x14_3.length < 3518437208883
       rotate_left
       ·rw [if_neg c55] at H
        exact absurd H (by simp)
       rw [if_pos c55] at H
       have LMc55:=Aside0.mk c55
       clear c55
       obtain ⟨y193,hy193⟩ : ∃ y_ : List (S32),y_ = (x14_3 ++ [(⟨t188,t191,t192⟩ : S32)]):=⟨_,rfl⟩
       replace H : (leadlag_Play.l1 k3 a3 x11_2 y193 l2 (l2.length : Int) (wrap64 (x63_3 + 1)) a0_0 a0_1 t188 t191 t192) = some (r1,r2):=by first|(rw [hy193];with_reducible exact H)|(have H2_:=(Option.bind_some _ _).symm.trans H;rw [hy193];with_reducible exact H2_)|(have H2_:=(Option.bind_some _ _).symm.trans H;with_reducible exact H2_)|with_reducible exact H|(rw [hy193];exact H)|exact H
       have Ny193:=Aside0.mk hy193
       clear hy193
       have H':=Aside0.mk H
       clear H
       have p187 : 0 ≤ (x63_3 : Int):=of_decide_eq_true (by first|(with_reducible assumption)|assumption)
       have q187 : x63_3 < (l2.length : Int):=of_decide_eq_true (by first|(with_reducible assumption)|assumption)
       obtain ⟨ad187,e187,hx187_0⟩:=Kd.at_int HR2.out x63_3 p187 q187
       cases e187
       replace hx187_0:=(HB.out.cell (World.block_lt_of_cell? w _ hx187_0)).trans hx187_0
       replace p187:=eq_true p187
       replace q187:=eq_true q187
       have hnb56:=NB177_178.out
       have hnc56:=NB178_177.out
       have hcz57_0 : wr.cell? ⟨gb177,0,none⟩ = some (.int .i64 a0_0):=(blk_cell BK177.out 0).trans rfl
       have hcz57_1 : wr.cell? ⟨gb177,1,none⟩ = some (.int .i64 a0_1):=(blk_cell BK177.out 1).trans rfl
       have hfz57_0:=blk_frozen BK177.out 0
       have hfz57_1:=blk_frozen BK177.out 1
       have hcz58_0 : wr.cell? ⟨gb178,0,none⟩ = some (.slice As_ us_.length cs_):=(blk_cell BK178.out 0).trans rfl
       have hcz58_1 : wr.cell? ⟨gb178,1,none⟩ = some (.int .i64 st_):=(blk_cell BK178.out 1).trans rfl
       have hcz58_2 : wr.cell? ⟨gb178,2,none⟩ = some (.int .i64 tu_):=(blk_cell BK178.out 2).trans rfl
       have hfz58_0:=blk_frozen BK178.out 0
       have hfz58_1:=blk_frozen BK178.out 1
       have hfz58_2:=blk_frozen BK178.out 2
       obtain ⟨Ao59,co59,eo59⟩:=Kd.R_slice HO_11.out
       subst eo59
       go_upto_region 19 with (first|((with_reducible refine gate_callee (f:=42) rfl ?_);refine goesL_ (some 75) rfl rfl Try.func42 (by kernel_rfl) rfl #[.agg #[.int .i64 a0_0,.int .i64 a0_1],.agg #[.slice As_ us_.length cs_,.int .i64 st_,.int .i64 tu_],.int .i64 (rd l2 x63_3),.slice Ao59 x11_2.length co59,.int .i64 (wrap64 (a3 + x63_3))] rfl (by (try simp only [List.map_toArray,List.map_cons,List.map_nil]);first|done|rfl|(simp only [List.length_drop,List.length_take];rfl)) ?_;(with_reducible refine (leadlag_step.calls k3 a0_0 a0_1 _ _ us_ st_ tu_ (rd l2 x63_3) _ _ x11_2 (wrap64 (a3 + x63_3)) t188 t191 t192 _ ?side1 ?side2 ?side3 ?side4 A54.out).mono ?_);(case side1 => repeat (first|exact HS.out.2|(with_reducible refine Kd.C_alloc ?_ _)|(with_reducible refine Kd.C_drewN ?_ _)|(with_reducible refine Kd.C_drew ?_)));(case side2 => exact HS.out.1);(case side3 => repeat (first|exact (Kd.R_reads' HO_11.out).2.2|(with_reducible refine Kd.C_alloc ?_ _)|(with_reducible refine Kd.C_drewN ?_ _)|(with_reducible refine Kd.C_drew ?_)));(case side4 => exact (Kd.R_reads' HO_11.out).2.1);rintro e w60 ⟨v189,rfl,ho0,hb⟩;refine ⟨_,rfl,?_⟩;have n0_:=Aside0.mk (Kd.R_below (by (with_reducible repeat (first|apply Kd.R_alloc|apply Kd.R_drewN|apply Kd.R_drew));exact HO_11.out) hb);have n1_:=Aside0.mk (Kd.S_elder' (by (with_reducible repeat (first|apply Kd.S_alloc|apply Kd.S_drewN|apply Kd.S_drew));exact HO_14.out) (Kd.R_base ho0) hb);have n2_:=Aside0.mk (Kd.R_lower ho0 (below_size (by repeat (first|(with_reducible first|exact HB.out|apply below_alloc|apply pw_below_drewN|apply below_drew1|refine below_set ?_ GE177.out|refine below_set ?_ GE178.out)|exact HB.out))));have n3_:=Aside0.mk (blk_below (g:=gb177) (o:=.cells #[.int .i64 a0_0,.int .i64 a0_1] 43 (0,0)) (by (with_reducible repeat (first|refine blk_drewN ?_ _|refine blk_drew ?_|refine blk_alloc ?_ _));exact BK177.out) hb);have n4_:=Aside0.mk (blk_below (g:=gb178) (o:=.cells #[.slice As_ us_.length cs_,.int .i64 st_,.int .i64 tu_] 32 (0,0)) (by (with_reducible repeat (first|refine blk_drewN ?_ _|refine blk_drew ?_|refine blk_alloc ?_ _));exact BK178.out) hb);have n5_:=Aside0.mk (below_step (by repeat (first|(with_reducible first|exact HB.out|apply below_alloc|apply pw_below_drewN|apply below_drew1|refine below_set ?_ GE177.out|refine below_set ?_ GE178.out)|exact HB.out)) hb);clear HO_11;clear HO_14;clear BK177;clear BK178;clear HB;have HO_11:=n0_;have HO_14:=n1_;have HO190:=n2_;have BK177:=n3_;have BK178:=n4_;have HB:=n5_;clear n0_ n1_ n2_ n3_ n4_ n5_;(try clear hb);(try clear hb2);(try clear hk);(try clear hi);(try clear ho0);obtain ⟨Ao62,co62,eo62⟩:=Kd.R_slice HO190.out;subst eo62;have hcs0 : w60.cell? ⟨gb178,0,none⟩ = some (.slice As_ us_.length cs_):=(blk_cell BK178.out 0).trans rfl;have hfs0:=blk_frozen BK178.out 0;have hcs1 : w60.cell? ⟨gb178,1,none⟩ = some (.int .i64 st_):=(blk_cell BK178.out 1).trans rfl;have hfs1:=blk_frozen BK178.out 1;have hcs2 : w60.cell? ⟨gb178,2,none⟩ = some (.int .i64 tu_):=(blk_cell BK178.out 2).trans rfl;have hfs2:=blk_frozen BK178.out 2))
       have m0_:=Aside0.mk (Kd.R_mono (ok':=fun _ => True) (Kd.R_far (p:=⟨gb178,2,none⟩) (Kd.R_far (p:=⟨gb178,1,none⟩) (Kd.R_far (p:=⟨gb178,0,none⟩) (Kd.R_types HO_11.out BK178.out (by decide)) (fun _ hk => hk.2) (.slice Ao62 t188.length co62)) (fun _ hk => hk.2) (.int .i64 t191)) (fun _ hk => hk.2) (.int .i64 t192)) (fun _ _ => trivial))
       have m1_:=Aside0.mk (Kd.S_far (p:=⟨gb178,2,none⟩) (Kd.S_far (p:=⟨gb178,1,none⟩) (Kd.S_far (p:=⟨gb178,0,none⟩) (HO_14.out) (fun _ hk => by first|exact hk|exact hk.1) (.slice Ao62 t188.length co62)) (fun _ hk => by first|exact hk|exact hk.1) (.int .i64 t191)) (fun _ hk => by first|exact hk|exact hk.1) (.int .i64 t192))
       have m2_:=Aside0.mk (Kd.R_mono (ok':=fun _ => True) (Kd.R_far (p:=⟨gb178,2,none⟩) (Kd.R_far (p:=⟨gb178,1,none⟩) (Kd.R_far (p:=⟨gb178,0,none⟩) (Kd.R_types HO190.out BK178.out (by decide)) (fun _ hk => hk.2) (.slice Ao62 t188.length co62)) (fun _ hk => hk.2) (.int .i64 t191)) (fun _ hk => hk.2) (.int .i64 t192)) (fun _ _ => trivial))
       have m3_:=Aside0.mk (blk_far (p:=⟨gb178,2,none⟩) (blk_far (p:=⟨gb178,1,none⟩) (blk_far (p:=⟨gb178,0,none⟩) (BK177.out) NB177_178.out (.slice Ao62 t188.length co62)) NB177_178.out (.int .i64 t191)) NB177_178.out (.int .i64 t192))
       have m4_:=Aside0.mk (blk_put (cs':=#[.slice Ao62 t188.length co62,.int .i64 t191,.int .i64 t192]) (blk_put (cs':=#[.slice Ao62 t188.length co62,.int .i64 t191,.int .i64 tu_]) (blk_put (cs':=#[.slice Ao62 t188.length co62,.int .i64 st_,.int .i64 tu_]) BK178.out 0 (.slice Ao62 t188.length co62) rfl) 1 (.int .i64 t191) rfl) 2 (.int .i64 t192) rfl)
       have m5_:=Aside0.mk (below_set (g:=gb178) (j:=2) (v:=.int .i64 t192) (below_set (g:=gb178) (j:=1) (v:=.int .i64 t191) (below_set (g:=gb178) (j:=0) (v:=.slice Ao62 t188.length co62) HB.out GE178.out) GE178.out) GE178.out)
       clear HO_11 HO_14 HO190 BK177 BK178 HB HS
       (try clear hcs0)
       (try clear hfs0)
       (try clear hcs1)
       (try clear hfs1)
       (try clear hcs2)
       (try clear hfs2)
       have HO_11:=m0_
       have HO_14:=m1_
       have HO190:=m2_
       have BK177:=m3_
       have BK178:=m4_
       have HB:=m5_
       clear m0_ m1_ m2_ m3_ m4_ m5_
       generalize ((w60.setCell ⟨gb178,0,none⟩ (.slice Ao62 t188.length co62)).setCell ⟨gb178,1,none⟩ (.int .i64 t191)).setCell ⟨gb178,2,none⟩ (.int .i64 t192) = w99 at HO_11 HO_14 HO190 BK177 BK178 HB ⊢
       have hct0 : w99.cell? ⟨gb178,0,none⟩ = some (.slice Ao62 t188.length co62):=(blk_cell BK178.out 0).trans rfl
       have hct1 : w99.cell? ⟨gb178,1,none⟩ = some (.int .i64 t191):=(blk_cell BK178.out 1).trans rfl
       have hct2 : w99.cell? ⟨gb178,2,none⟩ = some (.int .i64 t192):=(blk_cell BK178.out 2).trans rfl
       go_wp2_with (first|((with_reducible refine gate_builtin (b:=.append) (xs:=#[.tmp 76,.tmp 78]) rfl ?_);at_builtin;refine Kd.S_append k32 (w0:=w) w.heap.size rfl (.tmp 76) (.tmp 78) 55 32 (.agg #[(.slice none 0 0),(.int .i64 0),(.int .i64 0)]) 40 rfl Try.underlying55 info32 rfl (by decide) (by omega) u14 x14_3 (⟨t188,t191,t192⟩ : S32) [.slice Ao62 t188.length co62,.int .i64 t191,.int .i64 t192] (fun k_ => k_ ≠ gb178) (fun k_ => some k_ = (.slice Ao62 t188.length co62 : Value).ownBlock) rfl rfl ?aP (fun k_ hk_ => ((Kd.R_mono (ok':=fun k_ => ((fun k_ => k_ ≠ gb178)) k_∧some k_ ≠ (u14 : Value).ownBlock) (Kd.R_types (Kd.R_apart' (HO190.out) (Kd.S_typed HO_14.out) (by decide)) BK178.out (by decide)) (fun k_ hk => ⟨hk.2,hk.1.2⟩))).1 k_ hk_.symm) ?aF ?aO ?aB ?aS ?aL ?_;(case aP => exact k32_mkM _ _ _ (⟨t188,t191,t192⟩ : S32) (Kd.R_mono (Kd.R_tight rfl (Kd.R_mono (ok':=fun k_ => ((fun k_ => k_ ≠ gb178)) k_∧some k_ ≠ (u14 : Value).ownBlock) (Kd.R_types (Kd.R_apart' (HO190.out) (Kd.S_typed HO_14.out) (by decide)) BK178.out (by decide)) (fun k_ hk => ⟨hk.2,hk.1.2⟩))) (fun _ h_ => h_)));(case aB => exact (by repeat (first|(with_reducible first|exact HB.out|apply below_alloc|apply pw_below_drewN|apply below_drew1|refine below_set ?_ GE177.out|refine below_set ?_ GE178.out)|exact HB.out)));(case aF => exact (fun k_ hk => Kd.freshB (g:=gb178) (o:=.cells #[.slice Ao62 t188.length co62,.int .i64 t191,.int .i64 t192] 32 (0,0)) (by (with_reducible repeat (first|refine blk_drewN ?_ _|refine blk_drew ?_|refine blk_alloc ?_ _));exact BK178.out) k_ hk));(case aO => exact (by (with_reducible repeat (first|apply Kd.S_alloc|apply Kd.S_drewN|apply Kd.S_drew));exact Kd.S_mono HO_14.out (fun k_ hk => ⟨hk.1,fun e_ => hk.2 e_⟩)));(case aS => exact (below_size (by repeat (first|(with_reducible first|exact HB.out|apply below_alloc|apply pw_below_drewN|apply below_drew1|refine below_set ?_ GE177.out|refine below_set ?_ GE178.out)|exact HB.out))));(case aL => have:=LMc55.out;omega);intro v194 w61 ho hb hg hat;rw [← Ny193.out] at ho;have n0_:=Aside0.mk (Kd.R_over' (by (with_reducible repeat (first|apply Kd.R_alloc|apply Kd.R_drewN|apply Kd.R_drew));exact HO_11.out) (Kd.S_typed (by (with_reducible repeat (first|apply Kd.S_alloc|apply Kd.S_drewN|apply Kd.S_drew));exact HO_14.out)) (by decide) hg);have n1_:=Aside0.mk (blk_grown (g:=gb177) (o:=.cells #[.int .i64 a0_0,.int .i64 a0_1] 43 (0,0)) (by (with_reducible repeat (first|refine blk_drewN ?_ _|refine blk_drew ?_|refine blk_alloc ?_ _));exact BK177.out) hg (Kd.S_ne HO_14.out BK177.out (by decide)));have n2_:=Aside0.mk (blk_grown (g:=gb178) (o:=.cells #[.slice Ao62 t188.length co62,.int .i64 t191,.int .i64 t192] 32 (0,0)) (by (with_reducible repeat (first|refine blk_drewN ?_ _|refine blk_drew ?_|refine blk_alloc ?_ _));exact BK178.out) hg (Kd.S_away HO_14.out (fun _ hk => hk.1)));have n3_:=Aside0.mk (hb);have n4_:=Aside0.mk (ho);have hs_:=Aside0.mk (Kd.R_over' HO190.out (Kd.S_typed HO_14.out) (by decide) hg);clear HO_11;clear BK177;clear BK178;clear HB;clear HO_14;clear HO190;have HO_11:=n0_;have BK177:=n1_;have BK178:=n2_;have HB:=n3_;have HO195:=n4_;clear n0_ n1_ n2_ n3_ n4_;clear ho hb hg hat))
       go_roundg k3
       case measure => have:=HJ13.out;have:=HK2.out;have:=HK3.out;omega
       case rel => exact ⟨(y193),(wrap64 (x63_3 + 1)),t188,t191,t192,Ao62,co62,(by first|rfl|(simp;done)|(simp [*];done)),H',⟨by have:=HJ13.out;have:=HK2.out;have:=HK3.out;omega⟩,⟨by (with_reducible repeat (first|apply Kd.R_alloc|apply Kd.R_drewN|apply Kd.R_drew));exact HO_11.out⟩,⟨by (with_reducible repeat (first|apply Kd.S_alloc|apply Kd.S_drewN|apply Kd.S_drew));exact HO195.out⟩,⟨by (with_reducible repeat (first|refine blk_drewN ?_ _|refine blk_drew ?_|refine blk_alloc ?_ _));exact BK177.out⟩,⟨by (with_reducible repeat (first|refine blk_drewN ?_ _|refine blk_drew ?_|refine blk_alloc ?_ _));exact BK178.out⟩,⟨(Kd.R_reads' hs_.out).2.1,(Kd.R_reads' hs_.out).2.2⟩,⟨by repeat (first|(with_reducible first|exact HB.out|apply below_alloc|apply pw_below_drewN|apply below_drew1|refine below_set ?_ GE177.out|refine below_set ?_ GE178.out)|exact HB.out)⟩⟩
end Go.Proofs.Ytbecejhjdagkdaa.L
