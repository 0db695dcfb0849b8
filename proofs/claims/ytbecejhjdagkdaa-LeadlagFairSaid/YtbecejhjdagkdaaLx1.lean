-- Written by pp.py (a program of this session, over the kit's print.py) out of the translation. Not trusted: Lean checks it.
import Derived.Test.YtbecejhjdagkdaaLx0
namespace Go.Proofs.Ytbecejhjdagkdaa.L
open Go.RowKit Go.Proofs.YtbecejhjdagkdaaW.PrintWords Go.Proofs.YtbecejhjdagkdaaW.PrintLast Go.Proofs.YtbecejhjdagkdaaW.PrintMore
attribute [local go_sem] max2_int min2_int max_two min_two max_three min_three max_four min_four   -- for this text's walks alone
attribute [local go_sem] pp_mod256 pp_mod256_w
set_option linter.unusedVariables false
set_option linter.unusedSimpArgs false

/-! ### leadlag_instant: function 30 -/
def leadlag_instant.f (a0 : Int) : Option (Bool):=if a0 ≥ 0 then (some (decide (a0 ≤ 6311433599))) else (some false)
set_option maxHeartbeats 8000000 in
set_option maxRecDepth 100000 in
theorem leadlag_instant.calls (a0 : Int) (r : Bool) (w : World) (h : leadlag_instant.f a0 = some r) :
  Calls Try.prog 30 #[.int .i64 a0] w fun e w' => e = .returned (.bool r)∧Drawn0 w w':=by
 have H : (if a0 ≥ 0 then (some (decide (a0 ≤ 6311433599))) else (some false)) = some r:=h
 clear h
 by_cases c2 : a0 ≥ 0
 ·rw [if_pos c2] at H
  have c2b0 : decide (0 ≤ a0) = true:=decide_eq_true c2
  clear c2
  obtain rfl:=Option.some.inj H
  go_enter Try.func30,Try.ntmps30
  go_wp2
  go_ret
  exact ⟨by first|rfl|(simp;done)|(simp [*];done),by repeat (first|exact Drawn0.refl _|apply Drawn0.step)⟩
 rw [if_neg c2] at H
 have c2b0 : decide (0 ≤ a0) = false:=decide_eq_false c2
 clear c2
 obtain rfl:=Option.some.inj H
 go_enter Try.func30,Try.ntmps30
 go_wp2
 go_ret
 exact ⟨by first|rfl|(simp;done)|(simp [*];done),by repeat (first|exact Drawn0.refl _|apply Drawn0.step)⟩

/-! ### leadlag_New: function 10 -/
def leadlag_New.j0 : Nat→Int→Int→Bool→Option ((List (S62)) × Int × Int × Int)
 | 0,_,_,_ => none
 | k + 1,x0,x1,x11 => if x11 = true then (some (([] : List (S62)),0,0,1)) else ((leadlag_instant.f x1).bind fun t102 => (if t102 = true then (if 0 ≤ x0 then (if (x0 : Int).toNat ≤ 17592186044416 then (some ((List.replicate (x0 : Int).toNat z62),(-1),x1,0)) else (none)) else (none)) else (some (([] : List (S62)),0,0,6))))
def leadlag_New.f (k : Nat) (a0 : Int) (a1 : Int) : Option ((List (S62)) × Int × Int × Int):=if a0 < 1 then (leadlag_New.j0 k a0 a1 true) else (leadlag_New.j0 k a0 a1 (decide (a0 > 16)))
theorem leadlag_New.mono_l : ∀ k,(∀ y0 y1 y2,LeO (leadlag_New.j0 k y0 y1 y2) (leadlag_New.j0 (k + 1) y0 y1 y2))
 | 0 => fun _ _ _ r h => by simp [leadlag_New.j0] at h
 | k + 1 => by
  have ih0:=leadlag_New.mono_l k
  ·intro y0 y1 y2
   unfold leadlag_New.j0
   repeat' first
   | (with_reducible exact ih0 _ _ _)
   | (with_reducible exact LeO.refl _)
   | (with_reducible exact LeO.none _)
   | (with_reducible refine LeO.ite ?_ ?_)
   | (with_reducible refine LeO.bind ?_ (fun _ => ?_))
   | exact ih0 _ _ _
   | exact LeO.none _
   | refine LeO.ite ?_ ?_
   | refine LeO.bind ?_ (fun _ => ?_)
theorem leadlag_New.mono : ∀ a0 a1 k,LeO (leadlag_New.f k a0 a1) (leadlag_New.f (k + 1) a0 a1):=by
 intro a0 a1 k
 have ih0:=leadlag_New.mono_l k
 unfold leadlag_New.f
 repeat' first
   | (with_reducible exact ih0 _ _ _)
   | (with_reducible exact LeO.refl _)
   | (with_reducible exact LeO.none _)
   | (with_reducible refine LeO.ite ?_ ?_)
   | (with_reducible refine LeO.bind ?_ (fun _ => ?_))
   | exact ih0 _ _ _
   | exact LeO.none _
   | refine LeO.ite ?_ ?_
   | refine LeO.bind ?_ (fun _ => ?_)
set_option maxHeartbeats 8000000 in
set_option maxRecDepth 100000 in
theorem leadlag_New.calls (k : Nat) (a0 : Int) (a1 : Int) (r1 : List (S62)) (r2 : Int) (r3 : Int) (r4 : Int) (w : World) (h : leadlag_New.f k a0 a1 = some (r1,r2,r3,r4)) :
  Calls Try.prog 10 #[.int .i64 a0,.int .i64 a1] w fun e w' => ∃ v0_ : Value,e = .returned (.tuple #[.agg #[v0_,.int .i64 r2,.int .i64 r3],.int .i64 r4])∧Kd.R k62 62 w' w.heap.size (fun _ => True) v0_ r1∧Below w.heap.size w w':=by
 have hu32:=Try.underlying32
 have HB:=Aside0.mk (Below.refl w.heap.size w)
 have H : (if a0 < 1 then (leadlag_New.j0 k a0 a1 true) else (leadlag_New.j0 k a0 a1 (decide (a0 > 16)))) = some (r1,r2,r3,r4):=h
 clear h
 have HC3:=Aside0.mk H
 clear H
 go_enter Try.func10,Try.ntmps10
 go_upto_region 1 with (first|((with_reducible refine gate_dst (N:=4) rfl ?_);refine box_event ?hg (N:=4) ?hd (cs:=#[.slice none 0 0,.int .i64 0,.int .i64 0]) (t:=32) ?hr ?_;(case hd => rfl);(case hg => rfl);(case hr => first|(go_simp;done)|(go_simp;rfl));intro gb101 hg w4 hbox hb;have n0_:=Aside0.mk (below_step (by repeat (first|(with_reducible first|exact HB.out|apply below_alloc|apply pw_below_drewN|apply below_drew1)|exact HB.out)) hb);have n1_:=Aside0.mk (hbox);have n2_:=Aside0.mk ((by rw [hg];exact (below_size (by repeat (first|(with_reducible first|exact HB.out|apply below_alloc|apply pw_below_drewN|apply below_drew1)|exact HB.out))) : w.heap.size ≤ gb101));have n3_:=Aside0.mk ((by rw [hg];exact (below_size (by repeat (first|(with_reducible first|exact HB.out|apply below_alloc|apply pw_below_drewN|apply below_drew1)|exact HB.out))) : w.heap.size ≤ gb101));clear HB;have HB:=n0_;have BK101:=n1_;have GW101:=n2_;have GE101:=n3_;clear n0_ n1_ n2_ n3_;clear hb hbox hg))
 (try simp only [Act.put,List.setIfInBounds_toArray,List.set_cons_zero,List.set_cons_succ])
 go_cut [11] (fun v11 wc => ∃ (kq : Nat) (x11_2 : Bool),v11 = .bool x11_2∧Aside0 (leadlag_New.j0 kq a0 a1 x11_2 = some (r1,r2,r3,r4))∧Aside0 (kq ≤ k)∧Aside0 (wc.heap[gb101]? = some (.cells #[(.slice none 0 0),.int .i64 0,.int .i64 0] 32 (0,0)))∧Aside0 (Below w.heap.size w wc))
 case first =>
  have H:=HC3.out
  clear HC3
  by_cases c5 : a0 < 1
  ·rw [if_pos c5] at H
   have c5b0 : decide (a0 < 1) = true:=decide_eq_true c5
   clear c5
   (first|rw [c5b0]|(simp only [i64_w,i32_w];rw [c5b0])|skip)
   have H':=Aside0.mk H
   clear H
   go_wp2
   go_meet
   case rel => exact ⟨_,(true),(by first|rfl|(simp;done)|(simp [*];done)),H',⟨by first|omega|exact Nat.le_refl _⟩,⟨by (with_reducible repeat (first|refine blk_drewN ?_ _|refine blk_drew ?_|refine blk_alloc ?_ _));exact BK101.out⟩,⟨by repeat (first|(with_reducible first|exact HB.out|apply below_alloc|apply pw_below_drewN|apply below_drew1|refine below_set ?_ GE101.out)|exact HB.out)⟩⟩
  rw [if_neg c5] at H
  have c5b0 : decide (a0 < 1) = false:=decide_eq_false c5
  clear c5
  (first|rw [c5b0]|(simp only [i64_w,i32_w];rw [c5b0])|skip)
  have H':=Aside0.mk H
  clear H
  go_wp2
  go_meet
  case rel => exact ⟨_,(decide (a0 > 16)),(by first|rfl|(simp;done)|(simp [*];done)),H',⟨by first|omega|exact Nat.le_refl _⟩,⟨by (with_reducible repeat (first|refine blk_drewN ?_ _|refine blk_drew ?_|refine blk_alloc ?_ _));exact BK101.out⟩,⟨by repeat (first|(with_reducible first|exact HB.out|apply below_alloc|apply pw_below_drewN|apply below_drew1|refine below_set ?_ GE101.out)|exact HB.out)⟩⟩
 case rest =>
  clear HC3
  (try clear c1);(try clear p2);(try clear c5);(try clear c5b0)
  obtain ⟨kq,x11_2,rfl,HA,HJ2,BK101,HB⟩:=hcut
  cases kq with
  | zero => exact absurd HA.out (by simp [leadlag_New.j0])
  | succ kj2 =>
   have H:=HA.out
   clear HA
   simp only [leadlag_New.j0] at H
   by_cases c6 : x11_2 = true
   ·subst c6
    have H1 : (some (([] : List (S62)),0,0,1)) = some (r1,r2,r3,r4):=by rw [if_pos rfl] at H;exact H
    clear H
    have H:=H1
    clear H1
    simp only [Option.some.injEq,Prod.mk.injEq] at H
    obtain ⟨rfl,rfl,rfl,rfl⟩:=H
    have hcz7_0 : wc.cell? ⟨gb101,0,none⟩ = some (.slice none 0 0):=(blk_cell BK101.out 0).trans rfl
    have hcz7_1 : wc.cell? ⟨gb101,1,none⟩ = some (.int .i64 0):=(blk_cell BK101.out 1).trans rfl
    have hcz7_2 : wc.cell? ⟨gb101,2,none⟩ = some (.int .i64 0):=(blk_cell BK101.out 2).trans rfl
    have hfz7_0:=blk_frozen BK101.out 0
    have hfz7_1:=blk_frozen BK101.out 1
    have hfz7_2:=blk_frozen BK101.out 2
    go_wp2
    refine bodyPost_ret (results_ct rfl _ _ gb101 32 #[.slice none 0 0,.int .i64 0,.int .i64 0] (0,0) _ rfl (by (with_reducible repeat (first|refine blk_drewN ?_ _|refine blk_drew ?_|refine blk_alloc ?_ _));refine blk_put (cs:=#[.slice none 0 0,.int .i64 0,.int .i64 0]) ?_ 2 _ rfl;(with_reducible repeat (first|refine blk_drewN ?_ _|refine blk_drew ?_|refine blk_alloc ?_ _));refine blk_put (cs:=#[.slice none 0 0,.int .i64 0,.int .i64 0]) ?_ 1 _ rfl;(with_reducible repeat (first|refine blk_drewN ?_ _|refine blk_drew ?_|refine blk_alloc ?_ _));refine blk_put (cs:=#[.slice none 0 0,.int .i64 0,.int .i64 0]) ?_ 0 _ rfl;(with_reducible repeat (first|refine blk_drewN ?_ _|refine blk_drew ?_|refine blk_alloc ?_ _));exact BK101.out) Try.underlying32 rfl (by kernel_rfl)) rfl ?_
    exact ⟨_,by first|rfl|(simp [errW_none,errW_some] <;> rfl)|(simp [*,errW_none,errW_some] <;> rfl),by first|exact Kd.R_nil _ _ _ _ _|exact Kd.N_nil _ _ _ _ _|exact Kd.V_nil _ _ _ _ _|exact Kd.Q_nil _ _ _ _ _|exact Kd.S_nil _ _ _ _ _,by repeat (first|(with_reducible first|exact HB.out|apply below_alloc|apply pw_below_drewN|apply below_drew1|refine below_set ?_ GE101.out)|exact HB.out)⟩
   replace c6:=Bool.eq_false_iff.mpr c6
   subst c6
   have H1 : ((leadlag_instant.f a1).bind fun t102 => (if t102 = true then (if 0 ≤ a0 then (if (a0 : Int).toNat ≤ 17592186044416 then (some ((List.replicate (a0 : Int).toNat z62),(-1),a1,0)) else (none)) else (none)) else (some (([] : List (S62)),0,0,6)))) = some (r1,r2,r3,r4):=by rw [if_neg (show ¬ (false = true) by decide)] at H;exact H
   clear H
   have H:=H1
   clear H1
   replace H:=Option.bind_eq_some_iff.mp H
   obtain ⟨t102,A80,H⟩:=H
   replace H : (if t102 = true then (if 0 ≤ a0 then (if (a0 : Int).toNat ≤ 17592186044416 then (some ((List.replicate (a0 : Int).toNat z62),(-1),a1,0)) else (none)) else (none)) else (some (([] : List (S62)),0,0,6))) = some (r1,r2,r3,r4):=H
   have A8:=Aside0.mk A80
   clear A80
   by_cases c9 : t102 = true
   rotate_left
   ·replace c9:=Bool.eq_false_iff.mpr c9
    subst c9
    have H1 : (some (([] : List (S62)),0,0,6)) = some (r1,r2,r3,r4):=by rw [if_neg (show ¬ (false = true) by decide)] at H;exact H
    clear H
    have H:=H1
    clear H1
    simp only [Option.some.injEq,Prod.mk.injEq] at H
    obtain ⟨rfl,rfl,rfl,rfl⟩:=H
    go_wp2_with (first|((with_reducible refine gate_callee (f:=30) rfl ?_);refine goesL_ (some 14) rfl rfl Try.func30 (by kernel_rfl) rfl #[.int .i64 a1] rfl (by (try simp only [List.map_toArray,List.map_cons,List.map_nil]);first|done|rfl|(simp only [List.length_drop,List.length_take];rfl)) ?_;(with_reducible refine (leadlag_instant.calls a1 false _ A8.out).mono ?_);rintro e w' ⟨rfl,⟨nd,rfl⟩⟩;refine ⟨_,rfl,?_⟩;have hcz16_0 : wc.cell? ⟨gb101,0,none⟩ = some (.slice none 0 0):=(blk_cell BK101.out 0).trans rfl;have hcz16_1 : wc.cell? ⟨gb101,1,none⟩ = some (.int .i64 0):=(blk_cell BK101.out 1).trans rfl;have hcz16_2 : wc.cell? ⟨gb101,2,none⟩ = some (.int .i64 0):=(blk_cell BK101.out 2).trans rfl;have hfz16_0:=blk_frozen BK101.out 0;have hfz16_1:=blk_frozen BK101.out 1;have hfz16_2:=blk_frozen BK101.out 2))
    refine bodyPost_ret (results_ct rfl _ _ gb101 32 #[.slice none 0 0,.int .i64 0,.int .i64 0] (0,0) _ rfl (by (with_reducible repeat (first|refine blk_drewN ?_ _|refine blk_drew ?_|refine blk_alloc ?_ _));refine blk_put (cs:=#[.slice none 0 0,.int .i64 0,.int .i64 0]) ?_ 2 _ rfl;(with_reducible repeat (first|refine blk_drewN ?_ _|refine blk_drew ?_|refine blk_alloc ?_ _));refine blk_put (cs:=#[.slice none 0 0,.int .i64 0,.int .i64 0]) ?_ 1 _ rfl;(with_reducible repeat (first|refine blk_drewN ?_ _|refine blk_drew ?_|refine blk_alloc ?_ _));refine blk_put (cs:=#[.slice none 0 0,.int .i64 0,.int .i64 0]) ?_ 0 _ rfl;(with_reducible repeat (first|refine blk_drewN ?_ _|refine blk_drew ?_|refine blk_alloc ?_ _));exact BK101.out) Try.underlying32 rfl (by kernel_rfl)) rfl ?_
    exact ⟨_,by first|rfl|(simp [errW_none,errW_some] <;> rfl)|(simp [*,errW_none,errW_some] <;> rfl),by first|exact Kd.R_nil _ _ _ _ _|exact Kd.N_nil _ _ _ _ _|exact Kd.V_nil _ _ _ _ _|exact Kd.Q_nil _ _ _ _ _|exact Kd.S_nil _ _ _ _ _,by repeat (first|(with_reducible first|exact HB.out|apply below_alloc|apply pw_below_drewN|apply below_drew1|refine below_set ?_ GE101.out)|exact HB.out)⟩

   subst c9
   have H1 : (if 0 ≤ a0 then (if (a0 : Int).toNat ≤ 17592186044416 then (some ((List.replicate (a0 : Int).toNat z62),(-1),a1,0)) else (none)) else (none)) = some (r1,r2,r3,r4):=by rw [if_pos rfl] at H;exact H
   clear H
   have H:=H1
   clear H1
   by_cases c10 : 0 ≤ a0
   rotate_left
   ·rw [if_neg c10] at H
    exact absurd H (by simp)
   rw [if_pos c10] at H
   have c10b0:=eq_true c10
   have c10b1 : decide (0 ≤ a0) = true:=decide_eq_true c10
   clear c10
   by_cases c11 : (a0 : Int).toNat ≤ 17592186044416
   rotate_left
   ·rw [if_neg c11] at H
    exact absurd H (by simp)
   rw [if_pos c11] at H
   have c11b0:=eq_true c11
   have c11b1 : decide ((a0 : Int).toNat ≤ 17592186044416) = true:=decide_eq_true c11
   clear c11
   obtain ⟨y103,hy103⟩ : ∃ y_ : List (S62),y_ = (List.replicate (a0 : Int).toNat z62):=⟨_,rfl⟩
   replace H : (some (y103,(-1),a1,0)) = some (r1,r2,r3,r4):=by first|(rw [hy103];with_reducible exact H)|(have H2_:=(Option.bind_some _ _).symm.trans H;rw [hy103];with_reducible exact H2_)|(have H2_:=(Option.bind_some _ _).symm.trans H;with_reducible exact H2_)|with_reducible exact H|(rw [hy103];exact H)|exact H
   have Ny103:=Aside0.mk hy103
   clear hy103
   simp only [Option.some.injEq,Prod.mk.injEq] at H
   obtain ⟨rfl,rfl,rfl,rfl⟩:=H
   go_wp2_with (first|((with_reducible refine gate_callee (f:=30) rfl ?_);refine goesL_ (some 14) rfl rfl Try.func30 (by kernel_rfl) rfl #[.int .i64 a1] rfl (by (try simp only [List.map_toArray,List.map_cons,List.map_nil]);first|done|rfl|(simp only [List.length_drop,List.length_take];rfl)) ?_;(with_reducible refine (leadlag_instant.calls a1 true _ A8.out).mono ?_);rintro e w' ⟨rfl,⟨nd,rfl⟩⟩;refine ⟨_,rfl,?_⟩)|((with_reducible refine gate_dst (N:=18) rfl ?_);refine Kd.R_make k62 _ 62 rfl (N:=18) rfl 30 _ _ rfl a0 rfl rfl Try.underlying30 (.agg #[(.int .i64 0),(.bool false),(.bool false)]) 16 info62 rfl (by decide) (by omega) z62 (ok:=fun _ => True) (okp:=fun _ => True) (k62_mkM _ _ _ z62 ) (fun _ hk => hk) trivial (of_decide_eq_true (by first|(with_reducible assumption)|assumption)) (Nat.le_trans (Nat.mul_le_mul_right _ (of_decide_eq_true (by first|(with_reducible assumption)|assumption) : a0.toNat ≤ 17592186044416)) (by omega)) (Below.refl _ _) (Nat.le_refl _) ?_;intro v104 w12 ho13 hb hg_ hnew_;clear hg_ hnew_;(first|rw [← Ny103.out] at ho13|(simp only [Int.reduceToNat] at ho13;rw [← Ny103.out] at ho13));have n0_:=Aside0.mk (Kd.R_lower ho13 (below_size (by repeat (first|(with_reducible first|exact HB.out|apply below_alloc|apply pw_below_drewN|apply below_drew1|refine below_set ?_ GE101.out)|exact HB.out))));have n1_:=Aside0.mk (blk_below (g:=gb101) (o:=.cells #[.slice none 0 0,.int .i64 0,.int .i64 0] 32 (0,0)) (by (with_reducible repeat (first|refine blk_drewN ?_ _|refine blk_drew ?_|refine blk_alloc ?_ _));exact BK101.out) hb);have n2_:=Aside0.mk (below_step (by repeat (first|(with_reducible first|exact HB.out|apply below_alloc|apply pw_below_drewN|apply below_drew1|refine below_set ?_ GE101.out)|exact HB.out)) hb);clear BK101;clear HB;have HO105:=n0_;have BK101:=n1_;have HB:=n2_;clear n0_ n1_ n2_;clear hb ho13;obtain ⟨Ao14,co14,eo14⟩:=Kd.R_slice HO105.out;subst eo14;have hcz15_0 : w12.cell? ⟨gb101,0,none⟩ = some (.slice none 0 0):=(blk_cell BK101.out 0).trans rfl;have hcz15_1 : w12.cell? ⟨gb101,1,none⟩ = some (.int .i64 0):=(blk_cell BK101.out 1).trans rfl;have hcz15_2 : w12.cell? ⟨gb101,2,none⟩ = some (.int .i64 0):=(blk_cell BK101.out 2).trans rfl;have hfz15_0:=blk_frozen BK101.out 0;have hfz15_1:=blk_frozen BK101.out 1;have hfz15_2:=blk_frozen BK101.out 2))
   refine bodyPost_ret (results_ct rfl _ _ gb101 32 #[.slice Ao14 y103.length co14,.int .i64 (-1),.int .i64 a1] (0,0) _ rfl (by (with_reducible repeat (first|refine blk_drewN ?_ _|refine blk_drew ?_|refine blk_alloc ?_ _));refine blk_put (cs:=#[.slice Ao14 y103.length co14,.int .i64 (-1),.int .i64 0]) ?_ 2 _ rfl;(with_reducible repeat (first|refine blk_drewN ?_ _|refine blk_drew ?_|refine blk_alloc ?_ _));refine blk_put (cs:=#[.slice Ao14 y103.length co14,.int .i64 0,.int .i64 0]) ?_ 1 _ rfl;(with_reducible repeat (first|refine blk_drewN ?_ _|refine blk_drew ?_|refine blk_alloc ?_ _));refine blk_put (cs:=#[.slice none 0 0,.int .i64 0,.int .i64 0]) ?_ 0 _ rfl;(with_reducible repeat (first|refine blk_drewN ?_ _|refine blk_drew ?_|refine blk_alloc ?_ _));exact BK101.out) Try.underlying32 rfl (by kernel_rfl)) rfl ?_
   exact ⟨_,by first|rfl|(simp [errW_none,errW_some] <;> rfl)|(simp [*,errW_none,errW_some] <;> rfl),by (with_reducible repeat (first|apply Kd.R_alloc|apply Kd.R_drewN|apply Kd.R_drew));exact Kd.R_mono (Kd.R_far (p:=⟨gb101,2,none⟩) (Kd.R_far (p:=⟨gb101,1,none⟩) (Kd.R_far (p:=⟨gb101,0,none⟩) (Kd.R_types HO105.out BK101.out (by decide)) (fun _ hk => hk.2) (.slice Ao14 y103.length co14)) (fun _ hk => hk.2) (.int .i64 (-1))) (fun _ hk => hk.2) (.int .i64 a1)) (fun _ hk => trivial),by repeat (first|(with_reducible first|exact HB.out|apply below_alloc|apply pw_below_drewN|apply below_drew1|refine below_set ?_ GE101.out)|exact HB.out)⟩
/-! ### slices_Max_int_int: function 31 -/
def slices_Max_int_int.l0 : Nat→List Int→Int→Int→Option (Int)
 | 0,_,_,_ => none
 | k + 1,x0,x3,x4 => if x4 < (x0.length : Int) then (if 0 ≤ x4 then (slices_Max_int_int.l0 k x0 (mx x3 (rd x0 x4)) (wrap64 (x4 + 1))) else (none)) else (some x3)
def slices_Max_int_int.f (k : Nat) (l0 : List Int) : Option (Int):=if (l0.length : Int) < 1 then (none) else (if 0 < (l0.length : Int) then (slices_Max_int_int.l0 k l0 (rd l0 0) 1) else (none))
theorem slices_Max_int_int.mono_l : ∀ k,(∀ y0 y1 y2,LeO (slices_Max_int_int.l0 k y0 y1 y2) (slices_Max_int_int.l0 (k + 1) y0 y1 y2))
 | 0 => fun _ _ _ r h => by simp [slices_Max_int_int.l0] at h
 | k + 1 => by
  have ih0:=slices_Max_int_int.mono_l k
  ·intro y0 y1 y2
   unfold slices_Max_int_int.l0
   repeat' first
   | (with_reducible exact ih0 _ _ _)
   | (with_reducible exact LeO.refl _)
   | (with_reducible exact LeO.none _)
   | (with_reducible refine LeO.ite ?_ ?_)
   | (with_reducible refine LeO.bind ?_ (fun _ => ?_))
   | exact ih0 _ _ _
   | exact LeO.none _
   | refine LeO.ite ?_ ?_
   | refine LeO.bind ?_ (fun _ => ?_)
theorem slices_Max_int_int.mono : ∀ a0 k,LeO (slices_Max_int_int.f k a0) (slices_Max_int_int.f (k + 1) a0):=by
 intro a0 k
 have ih0:=slices_Max_int_int.mono_l k
 unfold slices_Max_int_int.f
 repeat' first
   | (with_reducible exact ih0 _ _ _)
   | (with_reducible exact LeO.refl _)
   | (with_reducible exact LeO.none _)
   | (with_reducible refine LeO.ite ?_ ?_)
   | (with_reducible refine LeO.bind ?_ (fun _ => ?_))
   | exact ih0 _ _ _
   | exact LeO.none _
   | refine LeO.ite ?_ ?_
   | refine LeO.bind ?_ (fun _ => ?_)
set_option maxHeartbeats 8000000 in
set_option maxRecDepth 100000 in
theorem slices_Max_int_int.calls (k : Nat) (A0 : Option Addr) (c0 : Nat) (l0 : List Int) (r : Int) (w : World) (hr0 : Kd.C (Kd.int .i64) w A0 l0.length l0) (hc0 : l0.length ≤ c0) (h : slices_Max_int_int.f k l0 = some r) :
  Calls Try.prog 31 #[.slice A0 l0.length c0] w fun e w' => e = .returned (.int .i64 r)∧Below w.heap.size w w':=by
 have HR0:=Aside0.mk hr0
 have HC0:=Aside0.mk hc0
 clear hr0 hc0
 have HB:=Aside0.mk (Below.refl w.heap.size w)
 have H : (if (l0.length : Int) < 1 then (none) else (if 0 < (l0.length : Int) then (slices_Max_int_int.l0 k l0 (rd l0 0) 1) else (none))) = some r:=h
 clear h
 by_cases c2 : (l0.length : Int) < 1
 ·rw [if_pos c2] at H
  exact absurd H (by simp)
 rw [if_neg c2] at H
 have c2b0 : decide ((l0.length : Int) < 1) = false:=decide_eq_false c2
 have c2b1 : decide (l0.length < 1) = false:=decide_eq_false (by omega)
 clear c2
 by_cases c3 : 0 < (l0.length : Int)
 rotate_left
 ·rw [if_neg c3] at H
  exact absurd H (by simp)

 rw [if_pos c3] at H
 have c3b0 : decide (0 < (l0.length : Int)) = true:=decide_eq_true c3
 have c3b1 : decide (0 < l0.length) = true:=decide_eq_true (by omega)
 clear c3
 have H':=Aside0.mk H
 clear H
 have p106 : 0 ≤ (0 : Int):=(by omega)
 have q106 : 0 < (l0.length : Int):=of_decide_eq_true (by first|(with_reducible assumption)|assumption)
 obtain ⟨ad106,e106,hx106_0⟩:=Kd.at_int HR0.out 0 p106 q106
 cases e106
 have qi106 : (0 < l0.length) = True:=eq_true (by omega)
 (try rw [show ((0 : Int)).toNat = 0 from rfl] at hx106_0)
 (try rw [Addr.add_zero'] at hx106_0)
 replace p106:=eq_true p106
 replace q106:=eq_true q106
 go_enter Try.func31,Try.ntmps31
 go_wp2
 go_loopg [3,4] k (fun kq v3 v4 w' => ∃ (x3_1 : Int) (x4_1 : Int),v3 = .int .i64 x3_1∧v4 = .int .i64 x4_1∧Aside0 (slices_Max_int_int.l0 kq l0 x3_1 x4_1 = some r)∧Aside0 (kq ≤ k)∧Aside0 (Below w.heap.size w w'))
 case atStart => exact ⟨(rd l0 0),(1),(by first|rfl|(simp;done)|(simp [*];done)),(by first|rfl|(simp;done)|(simp [*];done)),H',⟨Nat.le_refl _⟩,⟨by repeat (first|(with_reducible first|exact HB.out|apply below_alloc|apply pw_below_drewN|apply below_drew1)|exact HB.out)⟩⟩
 case round =>
  clear H'
  (try clear p1);(try clear q1);(try clear hx1);(try clear qi1);(try clear c2);(try clear c2b0);(try clear c2b1);(try clear p2);(try clear c3);(try clear c3b0);(try clear c3b1);(try clear hx106_0);(try clear p106);(try clear q106)
  obtain ⟨x3_1,x4_1,rfl,rfl,HA,HK1,HB⟩:=hrel
  cases gk with
  | zero => exact absurd HA.out (by simp [slices_Max_int_int.l0])
  | succ k1 =>
   have H:=HA.out
   clear HA
   simp only [slices_Max_int_int.l0] at H
   by_cases c4 : x4_1 < (l0.length : Int)
   rotate_left
   ·rw [if_neg c4] at H
    have c4b0 : decide (x4_1 < (l0.length : Int)) = false:=decide_eq_false c4
    clear c4
    obtain rfl:=Option.some.inj H
    go_wp2
    go_ret
    exact ⟨by first|rfl|(simp [errW_none,errW_some] <;> rfl)|(simp [*,errW_none,errW_some] <;> rfl),by repeat (first|(with_reducible first|exact HB.out|apply below_alloc|apply pw_below_drewN|apply below_drew1)|exact HB.out)⟩
   rw [if_pos c4] at H
   have c4b0 : decide (x4_1 < (l0.length : Int)) = true:=decide_eq_true c4
   clear c4
   by_cases c5 : 0 ≤ x4_1
   rotate_left
   ·rw [if_neg c5] at H
    exact absurd H (by simp)
   rw [if_pos c5] at H
   have c5b0 : decide (0 ≤ x4_1) = true:=decide_eq_true c5
   clear c5
   obtain ⟨ji6,hji6⟩ : ∃ j_ : Int,(mx x3_1 (rd l0 x4_1)) = j_:=⟨_,rfl⟩
   replace H : (slices_Max_int_int.l0 k1 l0 ji6 (wrap64 (x4_1 + 1))) = some r:=by first|(rw [hji6] at H;exact H)|(simp only [hji6] at H ⊢;exact H)
   have hji6_ : (if x3_1 < (rd l0 x4_1) then (rd l0 x4_1) else x3_1) = ji6:=hji6
   have H':=Aside0.mk H
   clear H
   have p107 : 0 ≤ (x4_1 : Int):=of_decide_eq_true (by first|(with_reducible assumption)|assumption)
   have q107 : x4_1 < (l0.length : Int):=of_decide_eq_true (by first|(with_reducible assumption)|assumption)
   obtain ⟨ad107,e107,hx107_0⟩:=Kd.at_int HR0.out x4_1 p107 q107
   obtain rfl : ad106 = ad107:=(by injection e107)
   replace hx107_0:=(HB.out.cell (World.block_lt_of_cell? w _ hx107_0)).trans hx107_0
   replace p107:=eq_true p107
   replace q107:=eq_true q107
   go_wp2
   go_roundg k1
   case measure => have:=HK1.out;omega
   case rel => exact ⟨(ji6),(wrap64 (x4_1 + 1)),(by first|rfl|(simp;done)|(simp only [← hji6] <;> (first|rfl|simp))|(simp [*];done)),(by first|rfl|(simp;done)|(simp [*];done)),H',⟨by have:=HK1.out;omega⟩,⟨by repeat (first|(with_reducible first|exact HB.out|apply below_alloc|apply pw_below_drewN|apply below_drew1)|exact HB.out)⟩⟩
/-! ### slices_Min_int_int: function 32 -/
def slices_Min_int_int.l0 : Nat→List Int→Int→Int→Option (Int)
 | 0,_,_,_ => none
 | k + 1,x0,x3,x4 => if x4 < (x0.length : Int) then (if 0 ≤ x4 then (slices_Min_int_int.l0 k x0 (mn x3 (rd x0 x4)) (wrap64 (x4 + 1))) else (none)) else (some x3)
def slices_Min_int_int.f (k : Nat) (l0 : List Int) : Option (Int):=if (l0.length : Int) < 1 then (none) else (if 0 < (l0.length : Int) then (slices_Min_int_int.l0 k l0 (rd l0 0) 1) else (none))
theorem slices_Min_int_int.mono_l : ∀ k,(∀ y0 y1 y2,LeO (slices_Min_int_int.l0 k y0 y1 y2) (slices_Min_int_int.l0 (k + 1) y0 y1 y2))
 | 0 => fun _ _ _ r h => by simp [slices_Min_int_int.l0] at h
 | k + 1 => by
  have ih0:=slices_Min_int_int.mono_l k
  ·intro y0 y1 y2
   unfold slices_Min_int_int.l0
   repeat' first
   | (with_reducible exact ih0 _ _ _)
   | (with_reducible exact LeO.refl _)
   | (with_reducible exact LeO.none _)
   | (with_reducible refine LeO.ite ?_ ?_)
   | (with_reducible refine LeO.bind ?_ (fun _ => ?_))
   | exact ih0 _ _ _
   | exact LeO.none _
   | refine LeO.ite ?_ ?_
   | refine LeO.bind ?_ (fun _ => ?_)
theorem slices_Min_int_int.mono : ∀ a0 k,LeO (slices_Min_int_int.f k a0) (slices_Min_int_int.f (k + 1) a0):=by
 intro a0 k
 have ih0:=slices_Min_int_int.mono_l k
 unfold slices_Min_int_int.f
 repeat' first
   | (with_reducible exact ih0 _ _ _)
   | (with_reducible exact LeO.refl _)
   | (with_reducible exact LeO.none _)
   | (with_reducible refine LeO.ite ?_ ?_)
   | (with_reducible refine LeO.bind ?_ (fun _ => ?_))
   | exact ih0 _ _ _
   | exact LeO.none _
   | refine LeO.ite ?_ ?_
   | refine LeO.bind ?_ (fun _ => ?_)
set_option maxHeartbeats 8000000 in
set_option maxRecDepth 100000 in
theorem slices_Min_int_int.calls (k : Nat) (A0 : Option Addr) (c0 : Nat) (l0 : List Int) (r : Int) (w : World) (hr0 : Kd.C (Kd.int .i64) w A0 l0.length l0) (hc0 : l0.length ≤ c0) (h : slices_Min_int_int.f k l0 = some r) :
  Calls Try.prog 32 #[.slice A0 l0.length c0] w fun e w' => e = .returned (.int .i64 r)∧Below w.heap.size w w':=by
 have HR0:=Aside0.mk hr0
 have HC0:=Aside0.mk hc0
 clear hr0 hc0
 have HB:=Aside0.mk (Below.refl w.heap.size w)
 have H : (if (l0.length : Int) < 1 then (none) else (if 0 < (l0.length : Int) then (slices_Min_int_int.l0 k l0 (rd l0 0) 1) else (none))) = some r:=h
 clear h
 by_cases c2 : (l0.length : Int) < 1
 ·rw [if_pos c2] at H
  exact absurd H (by simp)
 rw [if_neg c2] at H
 have c2b0 : decide ((l0.length : Int) < 1) = false:=decide_eq_false c2
 have c2b1 : decide (l0.length < 1) = false:=decide_eq_false (by omega)
 clear c2
 by_cases c3 : 0 < (l0.length : Int)
 rotate_left
 ·rw [if_neg c3] at H
  exact absurd H (by simp)

 rw [if_pos c3] at H
 have c3b0 : decide (0 < (l0.length : Int)) = true:=decide_eq_true c3
 have c3b1 : decide (0 < l0.length) = true:=decide_eq_true (by omega)
 clear c3
 have H':=Aside0.mk H
 clear H
 have p108 : 0 ≤ (0 : Int):=(by omega)
 have q108 : 0 < (l0.length : Int):=of_decide_eq_true (by first|(with_reducible assumption)|assumption)
 obtain ⟨ad108,e108,hx108_0⟩:=Kd.at_int HR0.out 0 p108 q108
 cases e108
 have qi108 : (0 < l0.length) = True:=eq_true (by omega)
 (try rw [show ((0 : Int)).toNat = 0 from rfl] at hx108_0)
 (try rw [Addr.add_zero'] at hx108_0)
 replace p108:=eq_true p108
 replace q108:=eq_true q108
 go_enter Try.func32,Try.ntmps32
 go_wp2
 go_loopg [3,4] k (fun kq v3 v4 w' => ∃ (x3_1 : Int) (x4_1 : Int),v3 = .int .i64 x3_1∧v4 = .int .i64 x4_1∧Aside0 (slices_Min_int_int.l0 kq l0 x3_1 x4_1 = some r)∧Aside0 (kq ≤ k)∧Aside0 (Below w.heap.size w w'))
 case atStart => exact ⟨(rd l0 0),(1),(by first|rfl|(simp;done)|(simp [*];done)),(by first|rfl|(simp;done)|(simp [*];done)),H',⟨Nat.le_refl _⟩,⟨by repeat (first|(with_reducible first|exact HB.out|apply below_alloc|apply pw_below_drewN|apply below_drew1)|exact HB.out)⟩⟩
 case round =>
  clear H'
  (try clear p1);(try clear q1);(try clear hx1);(try clear qi1);(try clear c2);(try clear c2b0);(try clear c2b1);(try clear p2);(try clear c3);(try clear c3b0);(try clear c3b1);(try clear hx108_0);(try clear p108);(try clear q108)
  obtain ⟨x3_1,x4_1,rfl,rfl,HA,HK1,HB⟩:=hrel
  cases gk with
  | zero => exact absurd HA.out (by simp [slices_Min_int_int.l0])
  | succ k1 =>
   have H:=HA.out
   clear HA
   simp only [slices_Min_int_int.l0] at H
   by_cases c4 : x4_1 < (l0.length : Int)
   rotate_left
   ·rw [if_neg c4] at H
    have c4b0 : decide (x4_1 < (l0.length : Int)) = false:=decide_eq_false c4
    clear c4
    obtain rfl:=Option.some.inj H
    go_wp2
    go_ret
    exact ⟨by first|rfl|(simp [errW_none,errW_some] <;> rfl)|(simp [*,errW_none,errW_some] <;> rfl),by repeat (first|(with_reducible first|exact HB.out|apply below_alloc|apply pw_below_drewN|apply below_drew1)|exact HB.out)⟩
   rw [if_pos c4] at H
   have c4b0 : decide (x4_1 < (l0.length : Int)) = true:=decide_eq_true c4
   clear c4
   by_cases c5 : 0 ≤ x4_1
   rotate_left
   ·rw [if_neg c5] at H
    exact absurd H (by simp)
   rw [if_pos c5] at H
   have c5b0 : decide (0 ≤ x4_1) = true:=decide_eq_true c5
   clear c5
   obtain ⟨ji6,hji6⟩ : ∃ j_ : Int,(mn x3_1 (rd l0 x4_1)) = j_:=⟨_,rfl⟩
   replace H : (slices_Min_int_int.l0 k1 l0 ji6 (wrap64 (x4_1 + 1))) = some r:=by first|(rw [hji6] at H;exact H)|(simp only [hji6] at H ⊢;exact H)
   have hji6_ : (if (rd l0 x4_1) < x3_1 then (rd l0 x4_1) else x3_1) = ji6:=hji6
   have H':=Aside0.mk H
   clear H
   have p109 : 0 ≤ (x4_1 : Int):=of_decide_eq_true (by first|(with_reducible assumption)|assumption)
   have q109 : x4_1 < (l0.length : Int):=of_decide_eq_true (by first|(with_reducible assumption)|assumption)
   obtain ⟨ad109,e109,hx109_0⟩:=Kd.at_int HR0.out x4_1 p109 q109
   obtain rfl : ad108 = ad109:=(by injection e109)
   replace hx109_0:=(HB.out.cell (World.block_lt_of_cell? w _ hx109_0)).trans hx109_0
   replace p109:=eq_true p109
   replace q109:=eq_true q109
   go_wp2
   go_roundg k1
   case measure => have:=HK1.out;omega
   case rel => exact ⟨(ji6),(wrap64 (x4_1 + 1)),(by first|rfl|(simp;done)|(simp only [← hji6] <;> (first|rfl|simp))|(simp [*];done)),(by first|rfl|(simp;done)|(simp [*];done)),H',⟨by have:=HK1.out;omega⟩,⟨by repeat (first|(with_reducible first|exact HB.out|apply below_alloc|apply pw_below_drewN|apply below_drew1)|exact HB.out)⟩⟩
/-! ### leadlag_Spread: function 12 -/
def leadlag_Spread.l0 : Nat→List Int→List (S62)→Int→Int→Option (Int × Int)
 | 0,_,_,_,_ => none
 | k + 1,x4,x8,x9,x10 => if x10 < x9 then (if 0 ≤ x10 then (if x10 < (x8.length : Int) then (if ((rd_T62 x8 x10).f2 = true) then (leadlag_Spread.l0 k x4 x8 x9 (wrap64 (x10 + 1))) else (if x4.length < 17592186044416 then (leadlag_Spread.l0 k (x4 ++ [(rd_T62 x8 x10).f0]) x8 x9 (wrap64 (x10 + 1))) else (none))) else (none)) else (none)) else (if (x4.length : Int) = 0 then (some (0,9)) else ((slices_Max_int_int.f k x4).bind fun t116 => ((slices_Min_int_int.f k x4).bind fun t117 => (some (wrap64 (t116 - t117),0)))))
def leadlag_Spread.f (k : Nat) (l0_0 : List (S62)) (a0_1 : Int) (a0_2 : Int) : Option (Int × Int):=leadlag_Spread.l0 k ([] : List Int) l0_0 (l0_0.length : Int) 0
theorem leadlag_Spread.mono_l : ∀ k,(∀ y0 y1 y2 y3,LeO (leadlag_Spread.l0 k y0 y1 y2 y3) (leadlag_Spread.l0 (k + 1) y0 y1 y2 y3))
 | 0 => fun _ _ _ _ r h => by simp [leadlag_Spread.l0] at h
 | k + 1 => by
  have ih0:=leadlag_Spread.mono_l k
  ·intro y0 y1 y2 y3
   unfold leadlag_Spread.l0
   repeat' first
   | (with_reducible exact ih0 _ _ _ _)
   | (with_reducible exact slices_Max_int_int.mono _ _)
   | (with_reducible exact slices_Min_int_int.mono _ _)
   | (with_reducible exact LeO.refl _)
   | (with_reducible exact LeO.none _)
   | (with_reducible refine LeO.ite ?_ ?_)
   | (with_reducible refine LeO.bind ?_ (fun _ => ?_))
   | exact ih0 _ _ _ _
   | exact slices_Max_int_int.mono _ _
   | exact slices_Min_int_int.mono _ _
   | exact LeO.none _
   | refine LeO.ite ?_ ?_
   | refine LeO.bind ?_ (fun _ => ?_)
theorem leadlag_Spread.mono : ∀ a0 a1 a2 k,LeO (leadlag_Spread.f k a0 a1 a2) (leadlag_Spread.f (k + 1) a0 a1 a2):=by
 intro a0 a1 a2 k
 have ih0:=leadlag_Spread.mono_l k
 unfold leadlag_Spread.f
 repeat' first
   | (with_reducible exact ih0 _ _ _ _)
   | (with_reducible exact slices_Max_int_int.mono _ _)
   | (with_reducible exact slices_Min_int_int.mono _ _)
   | (with_reducible exact LeO.refl _)
   | (with_reducible exact LeO.none _)
   | (with_reducible refine LeO.ite ?_ ?_)
   | (with_reducible refine LeO.bind ?_ (fun _ => ?_))
   | exact ih0 _ _ _ _
   | exact slices_Max_int_int.mono _ _
   | exact slices_Min_int_int.mono _ _
   | exact LeO.none _
   | refine LeO.ite ?_ ?_
   | refine LeO.bind ?_ (fun _ => ?_)
set_option maxHeartbeats 8000000 in
set_option maxRecDepth 100000 in
theorem leadlag_Spread.calls (k : Nat) (A0_0 : Option Addr) (c0_0 : Nat) (l0_0 : List (S62)) (a0_1 : Int) (a0_2 : Int) (r1 : Int) (r2 : Int) (w : World) (hr0_0 : Kd.C k62 w A0_0 l0_0.length l0_0) (hc0_0 : l0_0.length ≤ c0_0) (h : leadlag_Spread.f k l0_0 a0_1 a0_2 = some (r1,r2)) :
  Calls Try.prog 12 #[.agg #[.slice A0_0 l0_0.length c0_0,.int .i64 a0_1,.int .i64 a0_2]] w fun e w' => e = .returned (.tuple #[.int .i64 r1,.int .i64 r2])∧Below w.heap.size w w':=by
 have hu32:=Try.underlying32
 have hu62:=Try.underlying62
 have HR0_0:=Aside0.mk hr0_0
 have HC0_0:=Aside0.mk hc0_0
 clear hr0_0 hc0_0
 have HB:=Aside0.mk (Below.refl w.heap.size w)
 have H : (leadlag_Spread.l0 k ([] : List Int) l0_0 (l0_0.length : Int) 0) = some (r1,r2):=h
 clear h
 have H':=Aside0.mk H
 clear H
 go_enter Try.func12,Try.ntmps12
 go_wp2_with (first|((with_reducible refine gate_dst (N:=1) rfl ?_);refine box_event ?hg (N:=1) ?hd (cs:=#[.slice A0_0 l0_0.length c0_0,.int .i64 a0_1,.int .i64 a0_2]) (t:=32) ?hr ?_;(case hd => rfl);(case hg => rfl);(case hr => first|(go_simp;done)|(go_simp;rfl));intro gb110 hg w2 hbox hb;have n0_:=Aside0.mk (below_step (by repeat (first|(with_reducible first|exact HB.out|apply below_alloc|apply pw_below_drewN|apply below_drew1)|exact HB.out)) hb);have n1_:=Aside0.mk (hbox);have n2_:=Aside0.mk ((by rw [hg];exact (below_size (by repeat (first|(with_reducible first|exact HB.out|apply below_alloc|apply pw_below_drewN|apply below_drew1)|exact HB.out))) : w.heap.size ≤ gb110));have n3_:=Aside0.mk ((by rw [hg];exact (below_size (by repeat (first|(with_reducible first|exact HB.out|apply below_alloc|apply pw_below_drewN|apply below_drew1)|exact HB.out))) : w.heap.size ≤ gb110));clear HB;have HB:=n0_;have BK110:=n1_;have GW110:=n2_;have GE110:=n3_;clear n0_ n1_ n2_ n3_;clear hb hbox hg;have hcz3_0 : w2.cell? ⟨gb110,0,none⟩ = some (.slice A0_0 l0_0.length c0_0):=(blk_cell BK110.out 0).trans rfl;have hcz3_1 : w2.cell? ⟨gb110,1,none⟩ = some (.int .i64 a0_1):=(blk_cell BK110.out 1).trans rfl;have hcz3_2 : w2.cell? ⟨gb110,2,none⟩ = some (.int .i64 a0_2):=(blk_cell BK110.out 2).trans rfl;have hfz3_0:=blk_frozen BK110.out 0;have hfz3_1:=blk_frozen BK110.out 1;have hfz3_2:=blk_frozen BK110.out 2))
 go_loopg [4,10] k (fun kq v4 v10 w' => ∃ (x4_1 : List Int) (x10_1 : Int),v10 = .int .i64 x10_1∧Aside0 (leadlag_Spread.l0 kq x4_1 l0_0 (l0_0.length : Int) x10_1 = some (r1,r2))∧Aside0 (kq ≤ k)∧Aside0 (Kd.R (Kd.int .i64) 3 w' w.heap.size (fun _ => True) v4 x4_1)∧Aside0 (w'.heap[gb110]? = some (.cells #[(.slice A0_0 l0_0.length c0_0),.int .i64 a0_1,.int .i64 a0_2] 32 (0,0)))∧Aside0 (Below w.heap.size w w'))
 case atStart => exact ⟨(([] : List Int)),(0),(by first|rfl|(simp;done)|(simp [*];done)),H',⟨Nat.le_refl _⟩,⟨by first|exact Kd.R_nil _ _ _ _ _|exact Kd.N_nil _ _ _ _ _|exact Kd.V_nil _ _ _ _ _|exact Kd.Q_nil _ _ _ _ _|exact Kd.S_nil _ _ _ _ _⟩,⟨by (with_reducible repeat (first|refine blk_drewN ?_ _|refine blk_drew ?_|refine blk_alloc ?_ _));exact BK110.out⟩,⟨by repeat (first|(with_reducible first|exact HB.out|apply below_alloc|apply pw_below_drewN|apply below_drew1|refine below_set ?_ GE110.out)|exact HB.out)⟩⟩
 case round =>
  clear H'
  (try clear c1);(try clear p2);(try clear hcz3_0);(try clear hcz3_1);(try clear hcz3_2);(try clear hfz3_0);(try clear hfz3_1);(try clear hfz3_2)
  obtain ⟨x4_1,x10_1,rfl,HA,HK1,HO_4,BK110,HB⟩:=hrel
  cases gk with
  | zero => exact absurd HA.out (by simp [leadlag_Spread.l0])
  | succ k1 =>
   have H:=HA.out
   clear HA
   simp only [leadlag_Spread.l0] at H
   by_cases c4 : x10_1 < (l0_0.length : Int)
   rotate_left
   ·rw [if_neg c4] at H
    have c4b0 : decide (x10_1 < (l0_0.length : Int)) = false:=decide_eq_false c4
    clear c4
    by_cases c17 : (x4_1.length : Int) = 0
    ·rw [if_pos c17] at H
     have c17b0 : ((x4_1.length : Int) == 0) = true:=beq_iff_eq.mpr c17
     have c17b1 : ((x4_1.length : Int) != 0) = false:=bne_eq_false_iff_eq.mpr c17
     clear c17
     simp only [Option.some.injEq,Prod.mk.injEq] at H
     obtain ⟨rfl,rfl⟩:=H
     obtain ⟨Ao18,co18,eo18⟩:=Kd.R_slice HO_4.out
     subst eo18
     go_wp2
     go_ret2
     exact ⟨by first|rfl|(simp [errW_none,errW_some] <;> rfl)|(simp [*,errW_none,errW_some] <;> rfl),by repeat (first|(with_reducible first|exact HB.out|apply below_alloc|apply pw_below_drewN|apply below_drew1|refine below_set ?_ GE110.out)|exact HB.out)⟩
    rw [if_neg c17] at H
    have c17b0 : ((x4_1.length : Int) == 0) = false:=beq_eq_false_iff_ne.mpr c17
    have c17b1 : ((x4_1.length : Int) != 0) = true:=bne_iff_ne.mpr c17
    have c17b2 : ¬ (x4_1 = []):=fun h_ => c17 (by rw [h_];rfl)
    replace H:=Option.bind_eq_some_iff.mp H
    obtain ⟨t116,A190,H⟩:=H
    replace H : ((slices_Min_int_int.f k1 x4_1).bind fun t117 => (some (wrap64 (t116 - t117),0))) = some (r1,r2):=H
    have A19:=Aside0.mk A190
    clear A190
    replace H:=Option.bind_eq_some_iff.mp H
    obtain ⟨t117,A200,H⟩:=H
    replace H : (some (wrap64 (t116 - t117),0)) = some (r1,r2):=H
    have A20:=Aside0.mk A200
    clear A200
    simp only [Option.some.injEq,Prod.mk.injEq] at H
    obtain ⟨rfl,rfl⟩:=H
    obtain ⟨Ao21,co21,eo21⟩:=Kd.R_slice HO_4.out
    subst eo21
    go_wp2_with (first|((with_reducible refine gate_callee (f:=31) rfl ?_);refine goesL_ (some 27) rfl rfl Try.func31 (by kernel_rfl) rfl #[.slice Ao21 x4_1.length co21] rfl (by (try simp only [List.map_toArray,List.map_cons,List.map_nil]);first|done|rfl|(simp only [List.length_drop,List.length_take];rfl)) ?_;(with_reducible refine (slices_Max_int_int.calls k1 _ _ x4_1 t116 _ ?side1 ?side2 A19.out).mono ?_);(case side1 => repeat (first|exact (Kd.R_reads' HO_4.out).2.2|(with_reducible refine Kd.C_alloc ?_ _)|(with_reducible refine Kd.C_drewN ?_ _)|(with_reducible refine Kd.C_drew ?_)));(case side2 => exact (Kd.R_reads' HO_4.out).2.1);rintro e w22 ⟨rfl,hb⟩;refine ⟨_,rfl,?_⟩;have n0_:=Aside0.mk (Kd.R_below (by (with_reducible repeat (first|apply Kd.R_alloc|apply Kd.R_drewN|apply Kd.R_drew));exact HO_4.out) hb);have n1_:=Aside0.mk (blk_below (g:=gb110) (o:=.cells #[.slice A0_0 l0_0.length c0_0,.int .i64 a0_1,.int .i64 a0_2] 32 (0,0)) (by (with_reducible repeat (first|refine blk_drewN ?_ _|refine blk_drew ?_|refine blk_alloc ?_ _));exact BK110.out) hb);have n2_:=Aside0.mk (below_step (by repeat (first|(with_reducible first|exact HB.out|apply below_alloc|apply pw_below_drewN|apply below_drew1|refine below_set ?_ GE110.out)|exact HB.out)) hb);clear HO_4;clear BK110;clear HB;have HO_4:=n0_;have BK110:=n1_;have HB:=n2_;clear n0_ n1_ n2_;(try clear hb);(try clear hb2);(try clear hk);(try clear hi))|((with_reducible refine gate_callee (f:=32) rfl ?_);refine goesL_ (some 29) rfl rfl Try.func32 (by kernel_rfl) rfl #[.slice Ao21 x4_1.length co21] rfl (by (try simp only [List.map_toArray,List.map_cons,List.map_nil]);first|done|rfl|(simp only [List.length_drop,List.length_take];rfl)) ?_;(with_reducible refine (slices_Min_int_int.calls k1 _ _ x4_1 t117 _ ?side1 ?side2 A20.out).mono ?_);(case side1 => repeat (first|exact (Kd.R_reads' HO_4.out).2.2|(with_reducible refine Kd.C_alloc ?_ _)|(with_reducible refine Kd.C_drewN ?_ _)|(with_reducible refine Kd.C_drew ?_)));(case side2 => exact (Kd.R_reads' HO_4.out).2.1);rintro e w23 ⟨rfl,hb⟩;refine ⟨_,rfl,?_⟩;have n0_:=Aside0.mk (Kd.R_below (by (with_reducible repeat (first|apply Kd.R_alloc|apply Kd.R_drewN|apply Kd.R_drew));exact HO_4.out) hb);have n1_:=Aside0.mk (blk_below (g:=gb110) (o:=.cells #[.slice A0_0 l0_0.length c0_0,.int .i64 a0_1,.int .i64 a0_2] 32 (0,0)) (by (with_reducible repeat (first|refine blk_drewN ?_ _|refine blk_drew ?_|refine blk_alloc ?_ _));exact BK110.out) hb);have n2_:=Aside0.mk (below_step (by repeat (first|(with_reducible first|exact HB.out|apply below_alloc|apply pw_below_drewN|apply below_drew1|refine below_set ?_ GE110.out)|exact HB.out)) hb);clear HO_4;clear BK110;clear HB;have HO_4:=n0_;have BK110:=n1_;have HB:=n2_;clear n0_ n1_ n2_;(try clear hb);(try clear hb2);(try clear hk);(try clear hi)))
    go_ret2
    exact ⟨by first|rfl|(simp [errW_none,errW_some] <;> rfl)|(simp [*,errW_none,errW_some] <;> rfl),by repeat (first|(with_reducible first|exact HB.out|apply below_alloc|apply pw_below_drewN|apply below_drew1|refine below_set ?_ GE110.out)|exact HB.out)⟩

   rw [if_pos c4] at H
   have c4b0 : decide (x10_1 < (l0_0.length : Int)) = true:=decide_eq_true c4
   clear c4
   by_cases c5 : 0 ≤ x10_1
   rotate_left
   ·rw [if_neg c5] at H
    exact absurd H (by simp)
   rw [if_pos c5] at H
   have c5b0 : decide (0 ≤ x10_1) = true:=decide_eq_true c5
   clear c5
   by_cases c6 : x10_1 < (l0_0.length : Int)
   rotate_left
   ·rw [if_neg c6] at H
    exact absurd H (by simp)
   rw [if_pos c6] at H
   have c6b0 : decide (x10_1 < (l0_0.length : Int)) = true:=decide_eq_true c6
   clear c6
   obtain ⟨bq7,hbq7⟩ : ∃ b_ : Bool,b_ = ((rd_T62 l0_0 x10_1).f2):=⟨_,rfl⟩
   replace H : (if (bq7 = true) then (leadlag_Spread.l0 k1 x4_1 l0_0 (l0_0.length : Int) (wrap64 (x10_1 + 1))) else (if x4_1.length < 17592186044416 then (leadlag_Spread.l0 k1 (x4_1 ++ [(rd_T62 l0_0 x10_1).f0]) l0_0 (l0_0.length : Int) (wrap64 (x10_1 + 1))) else (none))) = some (r1,r2):=by rw [← hbq7] at H;exact H
   have Nbq7:=Aside0.mk hbq7
   clear hbq7
   by_cases c8 : (bq7 = true)
   ·subst c8
    have H1 : (leadlag_Spread.l0 k1 x4_1 l0_0 (l0_0.length : Int) (wrap64 (x10_1 + 1))) = some (r1,r2):=by rw [if_pos rfl] at H;exact H
    clear H
    have H:=H1
    clear H1
    have H':=Aside0.mk H
    clear H
    have p111 : 0 ≤ (x10_1 : Int):=of_decide_eq_true (by first|(with_reducible assumption)|assumption)
    have q111 : x10_1 < (l0_0.length : Int):=of_decide_eq_true (by first|(with_reducible assumption)|assumption)
    obtain ⟨ad111,e111,hx111_0,hx111_1,hx111_2⟩:=at_T62 HR0_0.out x10_1 p111 q111
    (try rw [← Nbq7.out] at hx111_1)
    (try rw [← Nbq7.out] at hx111_2)
    cases e111
    replace hx111_0:=(HB.out.cell (World.block_lt_of_cell? w _ hx111_0)).trans hx111_0
    replace hx111_1:=(HB.out.cell (World.block_lt_of_cell? w _ hx111_1)).trans hx111_1
    replace hx111_2:=(HB.out.cell (World.block_lt_of_cell? w _ hx111_2)).trans hx111_2
    replace p111:=eq_true p111
    replace q111:=eq_true q111
    go_wp2_with (first|((with_reducible refine gate_dst (N:=6) rfl ?_);refine box_event ?hg (N:=6) ?hd (cs:=#[.int .i64 0,.bool false,.bool false]) (t:=62) ?hr ?_;(case hd => rfl);(case hg => rfl);(case hr => first|(go_simp;done)|(go_simp;rfl));intro gb112 hg w9 hbox hb;have n0_:=Aside0.mk (Kd.R_below (by (with_reducible repeat (first|apply Kd.R_alloc|apply Kd.R_drewN|apply Kd.R_drew));exact HO_4.out) hb);have n1_:=Aside0.mk (blk_below (g:=gb110) (o:=.cells #[.slice (some ad111) l0_0.length c0_0,.int .i64 a0_1,.int .i64 a0_2] 32 (0,0)) (by (with_reducible repeat (first|refine blk_drewN ?_ _|refine blk_drew ?_|refine blk_alloc ?_ _));exact BK110.out) hb);have n2_:=Aside0.mk (below_step (by repeat (first|(with_reducible first|exact HB.out|apply below_alloc|apply pw_below_drewN|apply below_drew1|refine below_set ?_ GE110.out)|exact HB.out)) hb);have n3_:=Aside0.mk (hbox);have n4_:=Aside0.mk ((by rw [hg];exact (below_size (by repeat (first|(with_reducible first|exact HB.out|apply below_alloc|apply pw_below_drewN|apply below_drew1|refine below_set ?_ GE110.out)|exact HB.out))) : w.heap.size ≤ gb112));have n5_:=Aside0.mk ((by rw [hg];exact (below_size (by repeat (first|(with_reducible first|exact HB.out|apply below_alloc|apply pw_below_drewN|apply below_drew1|refine below_set ?_ GE110.out)|exact HB.out))) : w.heap.size ≤ gb112));have n6_:=Aside0.mk ((by rw [hg];exact Nat.ne_of_lt (blk_lt (g:=gb110) (o:=.cells #[.slice (some ad111) l0_0.length c0_0,.int .i64 a0_1,.int .i64 a0_2] 32 (0,0)) (by (with_reducible repeat (first|refine blk_drewN ?_ _|refine blk_drew ?_|refine blk_alloc ?_ _));exact BK110.out)) : gb110 ≠ gb112));have n7_:=Aside0.mk ((by rw [hg];exact Nat.ne_of_gt (blk_lt (g:=gb110) (o:=.cells #[.slice (some ad111) l0_0.length c0_0,.int .i64 a0_1,.int .i64 a0_2] 32 (0,0)) (by (with_reducible repeat (first|refine blk_drewN ?_ _|refine blk_drew ?_|refine blk_alloc ?_ _));exact BK110.out)) : gb112 ≠ gb110));clear HO_4;clear BK110;clear HB;have HO_4:=n0_;have BK110:=n1_;have HB:=n2_;have BK112:=n3_;have GW112:=n4_;have GE112:=n5_;have NB110_112:=n6_;have NB112_110:=n7_;clear n0_ n1_ n2_ n3_ n4_ n5_ n6_ n7_;clear hb hbox hg;have hnb10:=NB112_110.out;have hnc10:=NB110_112.out;have hcz11_0 : w9.cell? ⟨gb112,0,none⟩ = some (.int .i64 0):=(blk_cell BK112.out 0).trans rfl;have hcz11_1 : w9.cell? ⟨gb112,1,none⟩ = some (.bool false):=(blk_cell BK112.out 1).trans rfl;have hcz11_2 : w9.cell? ⟨gb112,2,none⟩ = some (.bool false):=(blk_cell BK112.out 2).trans rfl;have hfz11_0:=blk_frozen BK112.out 0;have hfz11_1:=blk_frozen BK112.out 1;have hfz11_2:=blk_frozen BK112.out 2))
    go_roundg k1
    case measure => have:=HK1.out;omega
    case rel => exact ⟨(x4_1),(wrap64 (x10_1 + 1)),(by first|rfl|(simp;done)|(simp [*];done)),H',⟨by have:=HK1.out;omega⟩,⟨by (with_reducible repeat (first|apply Kd.R_alloc|apply Kd.R_drewN|apply Kd.R_drew));exact Kd.R_mono (Kd.R_far (p:=⟨gb112,2,none⟩) (Kd.R_far (p:=⟨gb112,1,none⟩) (Kd.R_far (p:=⟨gb112,0,none⟩) (Kd.R_types HO_4.out BK112.out (by decide)) (fun _ hk => hk.2) (.int .i64 ((rd_T62 l0_0 x10_1).f0))) (fun _ hk => hk.2) (.bool ((rd_T62 l0_0 x10_1).f1))) (fun _ hk => hk.2) (.bool true)) (fun _ hk => trivial)⟩,⟨by (with_reducible repeat (first|refine blk_drewN ?_ _|refine blk_drew ?_|refine blk_alloc ?_ _));refine blk_far ?_ NB110_112.out _;(with_reducible repeat (first|refine blk_drewN ?_ _|refine blk_drew ?_|refine blk_alloc ?_ _));refine blk_far ?_ NB110_112.out _;(with_reducible repeat (first|refine blk_drewN ?_ _|refine blk_drew ?_|refine blk_alloc ?_ _));refine blk_far ?_ NB110_112.out _;(with_reducible repeat (first|refine blk_drewN ?_ _|refine blk_drew ?_|refine blk_alloc ?_ _));exact BK110.out⟩,⟨by repeat (first|(with_reducible first|exact HB.out|apply below_alloc|apply pw_below_drewN|apply below_drew1|refine below_set ?_ GE110.out|refine below_set ?_ GE112.out)|exact HB.out)⟩⟩
   replace c8:=Bool.eq_false_iff.mpr c8
   subst c8
   have H1 : (if x4_1.length < 17592186044416 then (leadlag_Spread.l0 k1 (x4_1 ++ [(rd_T62 l0_0 x10_1).f0]) l0_0 (l0_0.length : Int) (wrap64 (x10_1 + 1))) else (none)) = some (r1,r2):=by rw [if_neg (show ¬ (false = true) by decide)] at H;exact H
   clear H
   have H:=H1
   clear H1
   by_cases c12 : x4_1.length < 17592186044416
   rotate_left
   ·rw [if_neg c12] at H
    exact absurd H (by simp)
   rw [if_pos c12] at H
   have LMc12:=Aside0.mk c12
   clear c12
   obtain ⟨y113,hy113⟩ : ∃ y_ : List Int,y_ = (x4_1 ++ [(rd_T62 l0_0 x10_1).f0]):=⟨_,rfl⟩
   replace H : (leadlag_Spread.l0 k1 y113 l0_0 (l0_0.length : Int) (wrap64 (x10_1 + 1))) = some (r1,r2):=by first|(rw [hy113];with_reducible exact H)|(have H2_:=(Option.bind_some _ _).symm.trans H;rw [hy113];with_reducible exact H2_)|(have H2_:=(Option.bind_some _ _).symm.trans H;with_reducible exact H2_)|with_reducible exact H|(rw [hy113];exact H)|exact H
   have Ny113:=Aside0.mk hy113
   clear hy113
   have H':=Aside0.mk H
   clear H
   have p111 : 0 ≤ (x10_1 : Int):=of_decide_eq_true (by first|(with_reducible assumption)|assumption)
   have q111 : x10_1 < (l0_0.length : Int):=of_decide_eq_true (by first|(with_reducible assumption)|assumption)
   obtain ⟨ad111,e111,hx111_0,hx111_1,hx111_2⟩:=at_T62 HR0_0.out x10_1 p111 q111
   (try rw [← Nbq7.out] at hx111_1)
   (try rw [← Nbq7.out] at hx111_2)
   cases e111
   replace hx111_0:=(HB.out.cell (World.block_lt_of_cell? w _ hx111_0)).trans hx111_0
   replace hx111_1:=(HB.out.cell (World.block_lt_of_cell? w _ hx111_1)).trans hx111_1
   replace hx111_2:=(HB.out.cell (World.block_lt_of_cell? w _ hx111_2)).trans hx111_2
   replace p111:=eq_true p111
   replace q111:=eq_true q111
   go_wp2_with (first|((with_reducible refine gate_dst (N:=6) rfl ?_);refine box_event ?hg (N:=6) ?hd (cs:=#[.int .i64 0,.bool false,.bool false]) (t:=62) ?hr ?_;(case hd => rfl);(case hg => rfl);(case hr => first|(go_simp;done)|(go_simp;rfl));intro gb112 hg w13 hbox hb;have n0_:=Aside0.mk (Kd.R_below (by (with_reducible repeat (first|apply Kd.R_alloc|apply Kd.R_drewN|apply Kd.R_drew));exact HO_4.out) hb);have n1_:=Aside0.mk (blk_below (g:=gb110) (o:=.cells #[.slice (some ad111) l0_0.length c0_0,.int .i64 a0_1,.int .i64 a0_2] 32 (0,0)) (by (with_reducible repeat (first|refine blk_drewN ?_ _|refine blk_drew ?_|refine blk_alloc ?_ _));exact BK110.out) hb);have n2_:=Aside0.mk (below_step (by repeat (first|(with_reducible first|exact HB.out|apply below_alloc|apply pw_below_drewN|apply below_drew1|refine below_set ?_ GE110.out)|exact HB.out)) hb);have n3_:=Aside0.mk (hbox);have n4_:=Aside0.mk ((by rw [hg];exact (below_size (by repeat (first|(with_reducible first|exact HB.out|apply below_alloc|apply pw_below_drewN|apply below_drew1|refine below_set ?_ GE110.out)|exact HB.out))) : w.heap.size ≤ gb112));have n5_:=Aside0.mk ((by rw [hg];exact (below_size (by repeat (first|(with_reducible first|exact HB.out|apply below_alloc|apply pw_below_drewN|apply below_drew1|refine below_set ?_ GE110.out)|exact HB.out))) : w.heap.size ≤ gb112));have n6_:=Aside0.mk ((by rw [hg];exact Nat.ne_of_lt (blk_lt (g:=gb110) (o:=.cells #[.slice (some ad111) l0_0.length c0_0,.int .i64 a0_1,.int .i64 a0_2] 32 (0,0)) (by (with_reducible repeat (first|refine blk_drewN ?_ _|refine blk_drew ?_|refine blk_alloc ?_ _));exact BK110.out)) : gb110 ≠ gb112));have n7_:=Aside0.mk ((by rw [hg];exact Nat.ne_of_gt (blk_lt (g:=gb110) (o:=.cells #[.slice (some ad111) l0_0.length c0_0,.int .i64 a0_1,.int .i64 a0_2] 32 (0,0)) (by (with_reducible repeat (first|refine blk_drewN ?_ _|refine blk_drew ?_|refine blk_alloc ?_ _));exact BK110.out)) : gb112 ≠ gb110));clear HO_4;clear BK110;clear HB;have HO_4:=n0_;have BK110:=n1_;have HB:=n2_;have BK112:=n3_;have GW112:=n4_;have GE112:=n5_;have NB110_112:=n6_;have NB112_110:=n7_;clear n0_ n1_ n2_ n3_ n4_ n5_ n6_ n7_;clear hb hbox hg;have hnb14:=NB112_110.out;have hnc14:=NB110_112.out;have hcz15_0 : w13.cell? ⟨gb112,0,none⟩ = some (.int .i64 0):=(blk_cell BK112.out 0).trans rfl;have hcz15_1 : w13.cell? ⟨gb112,1,none⟩ = some (.bool false):=(blk_cell BK112.out 1).trans rfl;have hcz15_2 : w13.cell? ⟨gb112,2,none⟩ = some (.bool false):=(blk_cell BK112.out 2).trans rfl;have hfz15_0:=blk_frozen BK112.out 0;have hfz15_1:=blk_frozen BK112.out 1;have hfz15_2:=blk_frozen BK112.out 2)|((with_reducible refine gate_builtin (b:=.append) (xs:=#[.tmp 17,.tmp 20]) rfl ?_);at_builtin;refine Kd.R_append (Kd.int .i64) (w0:=w) w.heap.size rfl (.tmp 17) (.tmp 20) 49 3 (.int .i64 0) 8 rfl Try.underlying49 info3 rfl (by decide) (by omega) u4 x4_1 ((rd_T62 l0_0 x10_1).f0) [.int .i64 ((rd_T62 l0_0 x10_1).f0)] (fun _ => True) (fun _ => False) rfl (by first|(go_simp;done)|(go_simp;rfl)) ?aP (fun _ hk => hk.elim) ?aF ?aO ?aB ?aS ?aL ?_;(case aP => exact rfl);(case aB => exact (by repeat (first|(with_reducible first|exact HB.out|apply below_alloc|apply pw_below_drewN|apply below_drew1|refine below_set ?_ GE110.out|refine below_set ?_ GE112.out)|exact HB.out)));(case aF => exact (fun _ _ => trivial));(case aO => exact (by (with_reducible repeat (first|apply Kd.R_alloc|apply Kd.R_drewN|apply Kd.R_drew));exact Kd.R_mono (Kd.R_far (p:=⟨gb112,2,none⟩) (Kd.R_far (p:=⟨gb112,1,none⟩) (Kd.R_far (p:=⟨gb112,0,none⟩) (Kd.R_types HO_4.out BK112.out (by decide)) (fun _ hk => hk.2) (.int .i64 ((rd_T62 l0_0 x10_1).f0))) (fun _ hk => hk.2) (.bool ((rd_T62 l0_0 x10_1).f1))) (fun _ hk => hk.2) (.bool false)) (fun _ hk => trivial)));(case aS => exact (below_size (by repeat (first|(with_reducible first|exact HB.out|apply below_alloc|apply pw_below_drewN|apply below_drew1|refine below_set ?_ GE110.out|refine below_set ?_ GE112.out)|exact HB.out))));(case aL => have:=LMc12.out;omega);intro v114 w16 ho hb hg hat;rw [← Ny113.out] at ho;have n0_:=Aside0.mk (blk_grown (g:=gb110) (o:=.cells #[.slice (some ad111) l0_0.length c0_0,.int .i64 a0_1,.int .i64 a0_2] 32 (0,0)) (by (with_reducible repeat (first|refine blk_drewN ?_ _|refine blk_drew ?_|refine blk_alloc ?_ _));refine blk_far ?_ NB110_112.out _;(with_reducible repeat (first|refine blk_drewN ?_ _|refine blk_drew ?_|refine blk_alloc ?_ _));refine blk_far ?_ NB110_112.out _;(with_reducible repeat (first|refine blk_drewN ?_ _|refine blk_drew ?_|refine blk_alloc ?_ _));refine blk_far ?_ NB110_112.out _;(with_reducible repeat (first|refine blk_drewN ?_ _|refine blk_drew ?_|refine blk_alloc ?_ _));exact BK110.out) hg (Kd.R_ne HO_4.out BK110.out (by decide)));have n1_:=Aside0.mk (blk_grown (g:=gb112) (o:=.cells #[.int .i64 ((rd_T62 l0_0 x10_1).f0),.bool ((rd_T62 l0_0 x10_1).f1),.bool false] 62 (0,0)) (by (with_reducible repeat (first|refine blk_drewN ?_ _|refine blk_drew ?_|refine blk_alloc ?_ _));refine blk_put (cs:=#[.int .i64 ((rd_T62 l0_0 x10_1).f0),.bool ((rd_T62 l0_0 x10_1).f1),.bool false]) ?_ 2 _ rfl;(with_reducible repeat (first|refine blk_drewN ?_ _|refine blk_drew ?_|refine blk_alloc ?_ _));refine blk_put (cs:=#[.int .i64 ((rd_T62 l0_0 x10_1).f0),.bool false,.bool false]) ?_ 1 _ rfl;(with_reducible repeat (first|refine blk_drewN ?_ _|refine blk_drew ?_|refine blk_alloc ?_ _));refine blk_put (cs:=#[.int .i64 0,.bool false,.bool false]) ?_ 0 _ rfl;(with_reducible repeat (first|refine blk_drewN ?_ _|refine blk_drew ?_|refine blk_alloc ?_ _));exact BK112.out) hg (Kd.R_ne HO_4.out BK112.out (by decide)));have n2_:=Aside0.mk (hb);have n3_:=Aside0.mk (ho);clear BK110;clear BK112;clear HB;clear HO_4;have BK110:=n0_;have BK112:=n1_;have HB:=n2_;have HO115:=n3_;clear n0_ n1_ n2_ n3_;clear ho hb hg hat))
   go_roundg k1
   case measure => have:=HK1.out;omega
   case rel => exact ⟨(y113),(wrap64 (x10_1 + 1)),(by first|rfl|(simp;done)|(simp [*];done)),H',⟨by have:=HK1.out;omega⟩,⟨by (with_reducible repeat (first|apply Kd.R_alloc|apply Kd.R_drewN|apply Kd.R_drew));exact HO115.out⟩,⟨by (with_reducible repeat (first|refine blk_drewN ?_ _|refine blk_drew ?_|refine blk_alloc ?_ _));exact BK110.out⟩,⟨by repeat (first|(with_reducible first|exact HB.out|apply below_alloc|apply pw_below_drewN|apply below_drew1|refine below_set ?_ GE110.out|refine below_set ?_ GE112.out)|exact HB.out)⟩⟩
end Go.Proofs.Ytbecejhjdagkdaa.L
