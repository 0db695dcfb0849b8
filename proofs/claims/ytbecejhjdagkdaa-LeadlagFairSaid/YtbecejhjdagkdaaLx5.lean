-- Written by pp.py (a program of this session, over the kit's print.py) out of the translation. Not trusted: Lean checks it.
import Derived.Test.YtbecejhjdagkdaaLx0
import Derived.Test.YtbecejhjdagkdaaLx1
import Derived.Test.YtbecejhjdagkdaaLx2
namespace Go.Proofs.Ytbecejhjdagkdaa.L
open Go.RowKit Go.Proofs.YtbecejhjdagkdaaW.PrintWords Go.Proofs.YtbecejhjdagkdaaW.PrintLast Go.Proofs.YtbecejhjdagkdaaW.PrintMore
attribute [local go_sem] max2_int min2_int max_two min_two max_three min_three max_four min_four   -- for this text's walks alone
attribute [local go_sem] pp_mod256 pp_mod256_w
set_option linter.unusedVariables false
set_option linter.unusedSimpArgs false

/-! ### leadlag_Running: function 22 -/
def leadlag_Running.l0 : Nat→List Int→List (S62)→Int→Int→Option (List Int)
 | 0,_,_,_,_ => none
 | k + 1,x3,x7,x8,x9 => if x9 < x8 then (if 0 ≤ x9 then (if x9 < (x7.length : Int) then (if (rd_T62 x7 x9).f1 = true then (if x3.length < 17592186044416 then (leadlag_Running.l0 k (x3 ++ [x9]) x7 x8 (wrap64 (x9 + 1))) else (none)) else (leadlag_Running.l0 k x3 x7 x8 (wrap64 (x9 + 1)))) else (none)) else (none)) else (some x3)
def leadlag_Running.f (k : Nat) (l0_0 : List (S62)) (a0_1 : Int) (a0_2 : Int) : Option (List Int):=leadlag_Running.l0 k ([] : List Int) l0_0 (l0_0.length : Int) 0
theorem leadlag_Running.mono_l : ∀ k,(∀ y0 y1 y2 y3,LeO (leadlag_Running.l0 k y0 y1 y2 y3) (leadlag_Running.l0 (k + 1) y0 y1 y2 y3))
 | 0 => fun _ _ _ _ r h => by simp [leadlag_Running.l0] at h
 | k + 1 => by
  have ih0:=leadlag_Running.mono_l k
  ·intro y0 y1 y2 y3
   unfold leadlag_Running.l0
   repeat' first
   | (with_reducible exact ih0 _ _ _ _)
   | (with_reducible exact LeO.refl _)
   | (with_reducible exact LeO.none _)
   | (with_reducible refine LeO.ite ?_ ?_)
   | (with_reducible refine LeO.bind ?_ (fun _ => ?_))
   | exact ih0 _ _ _ _
   | exact LeO.none _
   | refine LeO.ite ?_ ?_
   | refine LeO.bind ?_ (fun _ => ?_)
theorem leadlag_Running.mono : ∀ a0 a1 a2 k,LeO (leadlag_Running.f k a0 a1 a2) (leadlag_Running.f (k + 1) a0 a1 a2):=by
 intro a0 a1 a2 k
 have ih0:=leadlag_Running.mono_l k
 unfold leadlag_Running.f
 repeat' first
   | (with_reducible exact ih0 _ _ _ _)
   | (with_reducible exact LeO.refl _)
   | (with_reducible exact LeO.none _)
   | (with_reducible refine LeO.ite ?_ ?_)
   | (with_reducible refine LeO.bind ?_ (fun _ => ?_))
   | exact ih0 _ _ _ _
   | exact LeO.none _
   | refine LeO.ite ?_ ?_
   | refine LeO.bind ?_ (fun _ => ?_)
set_option maxHeartbeats 8000000 in
set_option maxRecDepth 100000 in
theorem leadlag_Running.calls (k : Nat) (A0_0 : Option Addr) (c0_0 : Nat) (l0_0 : List (S62)) (a0_1 : Int) (a0_2 : Int) (r : List Int) (w : World) (hr0_0 : Kd.C k62 w A0_0 l0_0.length l0_0) (hc0_0 : l0_0.length ≤ c0_0) (h : leadlag_Running.f k l0_0 a0_1 a0_2 = some r) :
  Calls Try.prog 22 #[.agg #[.slice A0_0 l0_0.length c0_0,.int .i64 a0_1,.int .i64 a0_2]] w fun e w' => ∃ v0_ : Value,e = .returned (v0_)∧Kd.R (Kd.int .i64) 3 w' w.heap.size (fun _ => True) v0_ r∧Below w.heap.size w w':=by
 have hu32:=Try.underlying32
 have hu62:=Try.underlying62
 have HR0_0:=Aside0.mk hr0_0
 have HC0_0:=Aside0.mk hc0_0
 clear hr0_0 hc0_0
 have HB:=Aside0.mk (Below.refl w.heap.size w)
 have H : (leadlag_Running.l0 k ([] : List Int) l0_0 (l0_0.length : Int) 0) = some r:=h
 clear h
 have H':=Aside0.mk H
 clear H
 go_enter Try.func22,Try.ntmps22
 go_wp2_with (first|((with_reducible refine gate_dst (N:=1) rfl ?_);refine box_event ?hg (N:=1) ?hd (cs:=#[.slice A0_0 l0_0.length c0_0,.int .i64 a0_1,.int .i64 a0_2]) (t:=32) ?hr ?_;(case hd => rfl);(case hg => rfl);(case hr => first|(go_simp;done)|(go_simp;rfl));intro gb131 hg w2 hbox hb;have n0_:=Aside0.mk (below_step (by repeat (first|(with_reducible first|exact HB.out|apply below_alloc|apply pw_below_drewN|apply below_drew1)|exact HB.out)) hb);have n1_:=Aside0.mk (hbox);have n2_:=Aside0.mk ((by rw [hg];exact (below_size (by repeat (first|(with_reducible first|exact HB.out|apply below_alloc|apply pw_below_drewN|apply below_drew1)|exact HB.out))) : w.heap.size ≤ gb131));have n3_:=Aside0.mk ((by rw [hg];exact (below_size (by repeat (first|(with_reducible first|exact HB.out|apply below_alloc|apply pw_below_drewN|apply below_drew1)|exact HB.out))) : w.heap.size ≤ gb131));clear HB;have HB:=n0_;have BK131:=n1_;have GW131:=n2_;have GE131:=n3_;clear n0_ n1_ n2_ n3_;clear hb hbox hg;have hcz3_0 : w2.cell? ⟨gb131,0,none⟩ = some (.slice A0_0 l0_0.length c0_0):=(blk_cell BK131.out 0).trans rfl;have hcz3_1 : w2.cell? ⟨gb131,1,none⟩ = some (.int .i64 a0_1):=(blk_cell BK131.out 1).trans rfl;have hcz3_2 : w2.cell? ⟨gb131,2,none⟩ = some (.int .i64 a0_2):=(blk_cell BK131.out 2).trans rfl;have hfz3_0:=blk_frozen BK131.out 0;have hfz3_1:=blk_frozen BK131.out 1;have hfz3_2:=blk_frozen BK131.out 2))
 go_loopg [3,9] k (fun kq v3 v9 w' => ∃ (x3_1 : List Int) (x9_1 : Int),v9 = .int .i64 x9_1∧Aside0 (leadlag_Running.l0 kq x3_1 l0_0 (l0_0.length : Int) x9_1 = some r)∧Aside0 (kq ≤ k)∧Aside0 (Kd.R (Kd.int .i64) 3 w' w.heap.size (fun _ => True) v3 x3_1)∧Aside0 (w'.heap[gb131]? = some (.cells #[(.slice A0_0 l0_0.length c0_0),.int .i64 a0_1,.int .i64 a0_2] 32 (0,0)))∧Aside0 (Below w.heap.size w w'))
 case atStart => exact ⟨(([] : List Int)),(0),(by first|rfl|(simp;done)|(simp [*];done)),H',⟨Nat.le_refl _⟩,⟨by first|exact Kd.R_nil _ _ _ _ _|exact Kd.N_nil _ _ _ _ _|exact Kd.V_nil _ _ _ _ _|exact Kd.Q_nil _ _ _ _ _|exact Kd.S_nil _ _ _ _ _⟩,⟨by (with_reducible repeat (first|refine blk_drewN ?_ _|refine blk_drew ?_|refine blk_alloc ?_ _));exact BK131.out⟩,⟨by repeat (first|(with_reducible first|exact HB.out|apply below_alloc|apply pw_below_drewN|apply below_drew1|refine below_set ?_ GE131.out)|exact HB.out)⟩⟩
 case round =>
  clear H'
  (try clear c2);(try clear p2);(try clear hcz3_0);(try clear hcz3_1);(try clear hcz3_2);(try clear hfz3_0);(try clear hfz3_1);(try clear hfz3_2)
  obtain ⟨x3_1,x9_1,rfl,HA,HK1,HO_3,BK131,HB⟩:=hrel
  cases gk with
  | zero => exact absurd HA.out (by simp [leadlag_Running.l0])
  | succ k1 =>
   have H:=HA.out
   clear HA
   simp only [leadlag_Running.l0] at H
   by_cases c4 : x9_1 < (l0_0.length : Int)
   rotate_left
   ·rw [if_neg c4] at H
    have c4b0 : decide (x9_1 < (l0_0.length : Int)) = false:=decide_eq_false c4
    clear c4
    obtain rfl:=Option.some.inj H
    go_wp2
    go_ret
    exact ⟨_,by first|rfl|(simp [errW_none,errW_some] <;> rfl)|(simp [*,errW_none,errW_some] <;> rfl),by (with_reducible repeat (first|apply Kd.R_alloc|apply Kd.R_drewN|apply Kd.R_drew));exact HO_3.out,by repeat (first|(with_reducible first|exact HB.out|apply below_alloc|apply pw_below_drewN|apply below_drew1|refine below_set ?_ GE131.out)|exact HB.out)⟩


   rw [if_pos c4] at H
   have c4b0 : decide (x9_1 < (l0_0.length : Int)) = true:=decide_eq_true c4
   clear c4
   by_cases c5 : 0 ≤ x9_1
   rotate_left
   ·rw [if_neg c5] at H
    exact absurd H (by simp)
   rw [if_pos c5] at H
   have c5b0 : decide (0 ≤ x9_1) = true:=decide_eq_true c5
   clear c5
   by_cases c6 : x9_1 < (l0_0.length : Int)
   rotate_left
   ·rw [if_neg c6] at H
    exact absurd H (by simp)
   rw [if_pos c6] at H
   have c6b0 : decide (x9_1 < (l0_0.length : Int)) = true:=decide_eq_true c6
   clear c6
   obtain ⟨bq7,hbq7⟩ : ∃ b_ : Bool,b_ = ((rd_T62 l0_0 x9_1).f1):=⟨_,rfl⟩
   replace H : (if bq7 = true then (if x3_1.length < 17592186044416 then (leadlag_Running.l0 k1 (x3_1 ++ [x9_1]) l0_0 (l0_0.length : Int) (wrap64 (x9_1 + 1))) else (none)) else (leadlag_Running.l0 k1 x3_1 l0_0 (l0_0.length : Int) (wrap64 (x9_1 + 1)))) = some r:=by rw [← hbq7] at H;exact H
   have Nbq7:=Aside0.mk hbq7
   clear hbq7
   by_cases c8 : bq7 = true
   rotate_left
   ·replace c8:=Bool.eq_false_iff.mpr c8
    subst c8
    have H1 : (leadlag_Running.l0 k1 x3_1 l0_0 (l0_0.length : Int) (wrap64 (x9_1 + 1))) = some r:=by rw [if_neg (show ¬ (false = true) by decide)] at H;exact H
    clear H
    have H:=H1
    clear H1
    have H':=Aside0.mk H
    clear H
    have p132 : 0 ≤ (x9_1 : Int):=of_decide_eq_true (by first|(with_reducible assumption)|assumption)
    have q132 : x9_1 < (l0_0.length : Int):=of_decide_eq_true (by first|(with_reducible assumption)|assumption)
    obtain ⟨ad132,e132,hx132_0,hx132_1,hx132_2⟩:=at_T62 HR0_0.out x9_1 p132 q132
    (try rw [← Nbq7.out] at hx132_1)
    (try rw [← Nbq7.out] at hx132_2)
    cases e132
    replace hx132_0:=(HB.out.cell (World.block_lt_of_cell? w _ hx132_0)).trans hx132_0
    replace hx132_1:=(HB.out.cell (World.block_lt_of_cell? w _ hx132_1)).trans hx132_1
    replace hx132_2:=(HB.out.cell (World.block_lt_of_cell? w _ hx132_2)).trans hx132_2
    replace p132:=eq_true p132
    replace q132:=eq_true q132
    go_wp2_with (first|((with_reducible refine gate_dst (N:=5) rfl ?_);refine box_event ?hg (N:=5) ?hd (cs:=#[.int .i64 0,.bool false,.bool false]) (t:=62) ?hr ?_;(case hd => rfl);(case hg => rfl);(case hr => first|(go_simp;done)|(go_simp;rfl));intro gb133 hg w14 hbox hb;have n0_:=Aside0.mk (Kd.R_below (by (with_reducible repeat (first|apply Kd.R_alloc|apply Kd.R_drewN|apply Kd.R_drew));exact HO_3.out) hb);have n1_:=Aside0.mk (blk_below (g:=gb131) (o:=.cells #[.slice (some ad132) l0_0.length c0_0,.int .i64 a0_1,.int .i64 a0_2] 32 (0,0)) (by (with_reducible repeat (first|refine blk_drewN ?_ _|refine blk_drew ?_|refine blk_alloc ?_ _));exact BK131.out) hb);have n2_:=Aside0.mk (below_step (by repeat (first|(with_reducible first|exact HB.out|apply below_alloc|apply pw_below_drewN|apply below_drew1|refine below_set ?_ GE131.out)|exact HB.out)) hb);have n3_:=Aside0.mk (hbox);have n4_:=Aside0.mk ((by rw [hg];exact (below_size (by repeat (first|(with_reducible first|exact HB.out|apply below_alloc|apply pw_below_drewN|apply below_drew1|refine below_set ?_ GE131.out)|exact HB.out))) : w.heap.size ≤ gb133));have n5_:=Aside0.mk ((by rw [hg];exact (below_size (by repeat (first|(with_reducible first|exact HB.out|apply below_alloc|apply pw_below_drewN|apply below_drew1|refine below_set ?_ GE131.out)|exact HB.out))) : w.heap.size ≤ gb133));have n6_:=Aside0.mk ((by rw [hg];exact Nat.ne_of_lt (blk_lt (g:=gb131) (o:=.cells #[.slice (some ad132) l0_0.length c0_0,.int .i64 a0_1,.int .i64 a0_2] 32 (0,0)) (by (with_reducible repeat (first|refine blk_drewN ?_ _|refine blk_drew ?_|refine blk_alloc ?_ _));exact BK131.out)) : gb131 ≠ gb133));have n7_:=Aside0.mk ((by rw [hg];exact Nat.ne_of_gt (blk_lt (g:=gb131) (o:=.cells #[.slice (some ad132) l0_0.length c0_0,.int .i64 a0_1,.int .i64 a0_2] 32 (0,0)) (by (with_reducible repeat (first|refine blk_drewN ?_ _|refine blk_drew ?_|refine blk_alloc ?_ _));exact BK131.out)) : gb133 ≠ gb131));clear HO_3;clear BK131;clear HB;have HO_3:=n0_;have BK131:=n1_;have HB:=n2_;have BK133:=n3_;have GW133:=n4_;have GE133:=n5_;have NB131_133:=n6_;have NB133_131:=n7_;clear n0_ n1_ n2_ n3_ n4_ n5_ n6_ n7_;clear hb hbox hg;have hnb15:=NB133_131.out;have hnc15:=NB131_133.out;have hcz16_0 : w14.cell? ⟨gb133,0,none⟩ = some (.int .i64 0):=(blk_cell BK133.out 0).trans rfl;have hcz16_1 : w14.cell? ⟨gb133,1,none⟩ = some (.bool false):=(blk_cell BK133.out 1).trans rfl;have hcz16_2 : w14.cell? ⟨gb133,2,none⟩ = some (.bool false):=(blk_cell BK133.out 2).trans rfl;have hfz16_0:=blk_frozen BK133.out 0;have hfz16_1:=blk_frozen BK133.out 1;have hfz16_2:=blk_frozen BK133.out 2))
    go_roundg k1
    case measure => have:=HK1.out;omega
    case rel => exact ⟨(x3_1),(wrap64 (x9_1 + 1)),(by first|rfl|(simp;done)|(simp [*];done)),H',⟨by have:=HK1.out;omega⟩,⟨by (with_reducible repeat (first|apply Kd.R_alloc|apply Kd.R_drewN|apply Kd.R_drew));exact Kd.R_mono (Kd.R_far (p:=⟨gb133,2,none⟩) (Kd.R_far (p:=⟨gb133,1,none⟩) (Kd.R_far (p:=⟨gb133,0,none⟩) (Kd.R_types HO_3.out BK133.out (by decide)) (fun _ hk => hk.2) (.int .i64 ((rd_T62 l0_0 x9_1).f0))) (fun _ hk => hk.2) (.bool false)) (fun _ hk => hk.2) (.bool ((rd_T62 l0_0 x9_1).f2))) (fun _ hk => trivial)⟩,⟨by (with_reducible repeat (first|refine blk_drewN ?_ _|refine blk_drew ?_|refine blk_alloc ?_ _));refine blk_far ?_ NB131_133.out _;(with_reducible repeat (first|refine blk_drewN ?_ _|refine blk_drew ?_|refine blk_alloc ?_ _));refine blk_far ?_ NB131_133.out _;(with_reducible repeat (first|refine blk_drewN ?_ _|refine blk_drew ?_|refine blk_alloc ?_ _));refine blk_far ?_ NB131_133.out _;(with_reducible repeat (first|refine blk_drewN ?_ _|refine blk_drew ?_|refine blk_alloc ?_ _));exact BK131.out⟩,⟨by repeat (first|(with_reducible first|exact HB.out|apply below_alloc|apply pw_below_drewN|apply below_drew1|refine below_set ?_ GE131.out|refine below_set ?_ GE133.out)|exact HB.out)⟩⟩
   subst c8
   have H1 : (if x3_1.length < 17592186044416 then (leadlag_Running.l0 k1 (x3_1 ++ [x9_1]) l0_0 (l0_0.length : Int) (wrap64 (x9_1 + 1))) else (none)) = some r:=by rw [if_pos rfl] at H;exact H
   clear H
   have H:=H1
   clear H1
   by_cases c9 : x3_1.length < 17592186044416
   rotate_left
   ·rw [if_neg c9] at H
    exact absurd H (by simp)
   rw [if_pos c9] at H
   have LMc9:=Aside0.mk c9
   clear c9
   obtain ⟨y134,hy134⟩ : ∃ y_ : List Int,y_ = (x3_1 ++ [x9_1]):=⟨_,rfl⟩
   replace H : (leadlag_Running.l0 k1 y134 l0_0 (l0_0.length : Int) (wrap64 (x9_1 + 1))) = some r:=by first|(rw [hy134];with_reducible exact H)|(have H2_:=(Option.bind_some _ _).symm.trans H;rw [hy134];with_reducible exact H2_)|(have H2_:=(Option.bind_some _ _).symm.trans H;with_reducible exact H2_)|with_reducible exact H|(rw [hy134];exact H)|exact H
   have Ny134:=Aside0.mk hy134
   clear hy134
   have H':=Aside0.mk H
   clear H
   have p132 : 0 ≤ (x9_1 : Int):=of_decide_eq_true (by first|(with_reducible assumption)|assumption)
   have q132 : x9_1 < (l0_0.length : Int):=of_decide_eq_true (by first|(with_reducible assumption)|assumption)
   obtain ⟨ad132,e132,hx132_0,hx132_1,hx132_2⟩:=at_T62 HR0_0.out x9_1 p132 q132
   (try rw [← Nbq7.out] at hx132_1)
   (try rw [← Nbq7.out] at hx132_2)
   cases e132
   replace hx132_0:=(HB.out.cell (World.block_lt_of_cell? w _ hx132_0)).trans hx132_0
   replace hx132_1:=(HB.out.cell (World.block_lt_of_cell? w _ hx132_1)).trans hx132_1
   replace hx132_2:=(HB.out.cell (World.block_lt_of_cell? w _ hx132_2)).trans hx132_2
   replace p132:=eq_true p132
   replace q132:=eq_true q132
   go_wp2_with (first|((with_reducible refine gate_dst (N:=5) rfl ?_);refine box_event ?hg (N:=5) ?hd (cs:=#[.int .i64 0,.bool false,.bool false]) (t:=62) ?hr ?_;(case hd => rfl);(case hg => rfl);(case hr => first|(go_simp;done)|(go_simp;rfl));intro gb133 hg w10 hbox hb;have n0_:=Aside0.mk (Kd.R_below (by (with_reducible repeat (first|apply Kd.R_alloc|apply Kd.R_drewN|apply Kd.R_drew));exact HO_3.out) hb);have n1_:=Aside0.mk (blk_below (g:=gb131) (o:=.cells #[.slice (some ad132) l0_0.length c0_0,.int .i64 a0_1,.int .i64 a0_2] 32 (0,0)) (by (with_reducible repeat (first|refine blk_drewN ?_ _|refine blk_drew ?_|refine blk_alloc ?_ _));exact BK131.out) hb);have n2_:=Aside0.mk (below_step (by repeat (first|(with_reducible first|exact HB.out|apply below_alloc|apply pw_below_drewN|apply below_drew1|refine below_set ?_ GE131.out)|exact HB.out)) hb);have n3_:=Aside0.mk (hbox);have n4_:=Aside0.mk ((by rw [hg];exact (below_size (by repeat (first|(with_reducible first|exact HB.out|apply below_alloc|apply pw_below_drewN|apply below_drew1|refine below_set ?_ GE131.out)|exact HB.out))) : w.heap.size ≤ gb133));have n5_:=Aside0.mk ((by rw [hg];exact (below_size (by repeat (first|(with_reducible first|exact HB.out|apply below_alloc|apply pw_below_drewN|apply below_drew1|refine below_set ?_ GE131.out)|exact HB.out))) : w.heap.size ≤ gb133));have n6_:=Aside0.mk ((by rw [hg];exact Nat.ne_of_lt (blk_lt (g:=gb131) (o:=.cells #[.slice (some ad132) l0_0.length c0_0,.int .i64 a0_1,.int .i64 a0_2] 32 (0,0)) (by (with_reducible repeat (first|refine blk_drewN ?_ _|refine blk_drew ?_|refine blk_alloc ?_ _));exact BK131.out)) : gb131 ≠ gb133));have n7_:=Aside0.mk ((by rw [hg];exact Nat.ne_of_gt (blk_lt (g:=gb131) (o:=.cells #[.slice (some ad132) l0_0.length c0_0,.int .i64 a0_1,.int .i64 a0_2] 32 (0,0)) (by (with_reducible repeat (first|refine blk_drewN ?_ _|refine blk_drew ?_|refine blk_alloc ?_ _));exact BK131.out)) : gb133 ≠ gb131));clear HO_3;clear BK131;clear HB;have HO_3:=n0_;have BK131:=n1_;have HB:=n2_;have BK133:=n3_;have GW133:=n4_;have GE133:=n5_;have NB131_133:=n6_;have NB133_131:=n7_;clear n0_ n1_ n2_ n3_ n4_ n5_ n6_ n7_;clear hb hbox hg;have hnb11:=NB133_131.out;have hnc11:=NB131_133.out;have hcz12_0 : w10.cell? ⟨gb133,0,none⟩ = some (.int .i64 0):=(blk_cell BK133.out 0).trans rfl;have hcz12_1 : w10.cell? ⟨gb133,1,none⟩ = some (.bool false):=(blk_cell BK133.out 1).trans rfl;have hcz12_2 : w10.cell? ⟨gb133,2,none⟩ = some (.bool false):=(blk_cell BK133.out 2).trans rfl;have hfz12_0:=blk_frozen BK133.out 0;have hfz12_1:=blk_frozen BK133.out 1;have hfz12_2:=blk_frozen BK133.out 2)|((with_reducible refine gate_builtin (b:=.append) (xs:=#[.tmp 16,.tmp 18]) rfl ?_);at_builtin;refine Kd.R_append (Kd.int .i64) (w0:=w) w.heap.size rfl (.tmp 16) (.tmp 18) 49 3 (.int .i64 0) 8 rfl Try.underlying49 info3 rfl (by decide) (by omega) u3 x3_1 x9_1 [.int .i64 x9_1] (fun _ => True) (fun _ => False) rfl (by first|(go_simp;done)|(go_simp;rfl)) ?aP (fun _ hk => hk.elim) ?aF ?aO ?aB ?aS ?aL ?_;(case aP => exact rfl);(case aB => exact (by repeat (first|(with_reducible first|exact HB.out|apply below_alloc|apply pw_below_drewN|apply below_drew1|refine below_set ?_ GE131.out|refine below_set ?_ GE133.out)|exact HB.out)));(case aF => exact (fun _ _ => trivial));(case aO => exact (by (with_reducible repeat (first|apply Kd.R_alloc|apply Kd.R_drewN|apply Kd.R_drew));exact Kd.R_mono (Kd.R_far (p:=⟨gb133,2,none⟩) (Kd.R_far (p:=⟨gb133,1,none⟩) (Kd.R_far (p:=⟨gb133,0,none⟩) (Kd.R_types HO_3.out BK133.out (by decide)) (fun _ hk => hk.2) (.int .i64 ((rd_T62 l0_0 x9_1).f0))) (fun _ hk => hk.2) (.bool true)) (fun _ hk => hk.2) (.bool ((rd_T62 l0_0 x9_1).f2))) (fun _ hk => trivial)));(case aS => exact (below_size (by repeat (first|(with_reducible first|exact HB.out|apply below_alloc|apply pw_below_drewN|apply below_drew1|refine below_set ?_ GE131.out|refine below_set ?_ GE133.out)|exact HB.out))));(case aL => have:=LMc9.out;omega);intro v135 w13 ho hb hg hat;rw [← Ny134.out] at ho;have n0_:=Aside0.mk (blk_grown (g:=gb131) (o:=.cells #[.slice (some ad132) l0_0.length c0_0,.int .i64 a0_1,.int .i64 a0_2] 32 (0,0)) (by (with_reducible repeat (first|refine blk_drewN ?_ _|refine blk_drew ?_|refine blk_alloc ?_ _));refine blk_far ?_ NB131_133.out _;(with_reducible repeat (first|refine blk_drewN ?_ _|refine blk_drew ?_|refine blk_alloc ?_ _));refine blk_far ?_ NB131_133.out _;(with_reducible repeat (first|refine blk_drewN ?_ _|refine blk_drew ?_|refine blk_alloc ?_ _));refine blk_far ?_ NB131_133.out _;(with_reducible repeat (first|refine blk_drewN ?_ _|refine blk_drew ?_|refine blk_alloc ?_ _));exact BK131.out) hg (Kd.R_ne HO_3.out BK131.out (by decide)));have n1_:=Aside0.mk (blk_grown (g:=gb133) (o:=.cells #[.int .i64 ((rd_T62 l0_0 x9_1).f0),.bool true,.bool ((rd_T62 l0_0 x9_1).f2)] 62 (0,0)) (by (with_reducible repeat (first|refine blk_drewN ?_ _|refine blk_drew ?_|refine blk_alloc ?_ _));refine blk_put (cs:=#[.int .i64 ((rd_T62 l0_0 x9_1).f0),.bool true,.bool false]) ?_ 2 _ rfl;(with_reducible repeat (first|refine blk_drewN ?_ _|refine blk_drew ?_|refine blk_alloc ?_ _));refine blk_put (cs:=#[.int .i64 ((rd_T62 l0_0 x9_1).f0),.bool false,.bool false]) ?_ 1 _ rfl;(with_reducible repeat (first|refine blk_drewN ?_ _|refine blk_drew ?_|refine blk_alloc ?_ _));refine blk_put (cs:=#[.int .i64 0,.bool false,.bool false]) ?_ 0 _ rfl;(with_reducible repeat (first|refine blk_drewN ?_ _|refine blk_drew ?_|refine blk_alloc ?_ _));exact BK133.out) hg (Kd.R_ne HO_3.out BK133.out (by decide)));have n2_:=Aside0.mk (hb);have n3_:=Aside0.mk (ho);clear BK131;clear BK133;clear HB;clear HO_3;have BK131:=n0_;have BK133:=n1_;have HB:=n2_;have HO136:=n3_;clear n0_ n1_ n2_ n3_;clear ho hb hg hat))
   go_roundg k1
   case measure => have:=HK1.out;omega
   case rel => exact ⟨(y134),(wrap64 (x9_1 + 1)),(by first|rfl|(simp;done)|(simp [*];done)),H',⟨by have:=HK1.out;omega⟩,⟨by (with_reducible repeat (first|apply Kd.R_alloc|apply Kd.R_drewN|apply Kd.R_drew));exact HO136.out⟩,⟨by (with_reducible repeat (first|refine blk_drewN ?_ _|refine blk_drew ?_|refine blk_alloc ?_ _));exact BK131.out⟩,⟨by repeat (first|(with_reducible first|exact HB.out|apply below_alloc|apply pw_below_drewN|apply below_drew1|refine below_set ?_ GE131.out|refine below_set ?_ GE133.out)|exact HB.out)⟩⟩
/-! ### leadlag_count: function 39 -/
-- told with IndexFunc

/-! ### leadlag_on: function 40 -/
def leadlag_on.f (a0_0 : Int) (a0_1 : Bool) (a0_2 : Bool) : Option (Bool):=some a0_1
set_option maxHeartbeats 8000000 in
set_option maxRecDepth 100000 in
theorem leadlag_on.calls (a0_0 : Int) (a0_1 : Bool) (a0_2 : Bool) (r : Bool) (w : World) (h : leadlag_on.f a0_0 a0_1 a0_2 = some r) :
  Calls Try.prog 40 #[.agg #[.int .i64 a0_0,.bool a0_1,.bool a0_2]] w fun e w' => e = .returned (.bool r)∧Below w.heap.size w w':=by
 have hu62:=Try.underlying62
 have HB:=Aside0.mk (Below.refl w.heap.size w)
 have H : (some a0_1) = some r:=h
 clear h
 obtain rfl:=Option.some.inj H
 go_enter Try.func40,Try.ntmps40
 go_wp2_with (first|((with_reducible refine gate_dst (N:=1) rfl ?_);refine box_event ?hg (N:=1) ?hd (cs:=#[.int .i64 a0_0,.bool a0_1,.bool a0_2]) (t:=62) ?hr ?_;(case hd => rfl);(case hg => rfl);(case hr => first|(go_simp;done)|(go_simp;rfl));intro gb137 hg w2 hbox hb;have n0_:=Aside0.mk (below_step (by repeat (first|(with_reducible first|exact HB.out|apply below_alloc|apply pw_below_drewN|apply below_drew1)|exact HB.out)) hb);have n1_:=Aside0.mk (hbox);have n2_:=Aside0.mk ((by rw [hg];exact (below_size (by repeat (first|(with_reducible first|exact HB.out|apply below_alloc|apply pw_below_drewN|apply below_drew1)|exact HB.out))) : w.heap.size ≤ gb137));have n3_:=Aside0.mk ((by rw [hg];exact (below_size (by repeat (first|(with_reducible first|exact HB.out|apply below_alloc|apply pw_below_drewN|apply below_drew1)|exact HB.out))) : w.heap.size ≤ gb137));clear HB;have HB:=n0_;have BK137:=n1_;have GW137:=n2_;have GE137:=n3_;clear n0_ n1_ n2_ n3_;clear hb hbox hg;have hcz3_0 : w2.cell? ⟨gb137,0,none⟩ = some (.int .i64 a0_0):=(blk_cell BK137.out 0).trans rfl;have hcz3_1 : w2.cell? ⟨gb137,1,none⟩ = some (.bool a0_1):=(blk_cell BK137.out 1).trans rfl;have hcz3_2 : w2.cell? ⟨gb137,2,none⟩ = some (.bool a0_2):=(blk_cell BK137.out 2).trans rfl;have hfz3_0:=blk_frozen BK137.out 0;have hfz3_1:=blk_frozen BK137.out 1;have hfz3_2:=blk_frozen BK137.out 2))
 go_ret
 exact ⟨by first|rfl|(simp [errW_none,errW_some] <;> rfl)|(simp [*,errW_none,errW_some] <;> rfl),by repeat (first|(with_reducible first|exact HB.out|apply below_alloc|apply pw_below_drewN|apply below_drew1|refine below_set ?_ GE137.out)|exact HB.out)⟩


/-! ### leadlag_countOn: function 73 -/
def leadlag_countOn.f (k : Nat) (l0_0 : List (S62)) (a0_1 : Int) (a0_2 : Int) : Option Int:=leadlag_count.f leadlag_on.f k l0_0 a0_1 a0_2
theorem leadlag_countOn.mono : ∀ a0 a1 a2 k,LeO (leadlag_countOn.f k a0 a1 a2) (leadlag_countOn.f (k + 1) a0 a1 a2):=leadlag_count.mono leadlag_on.f
theorem leadlag_countOn.calls (k : Nat) (A0_0 : Option Addr) (c0_0 : Nat) (l0_0 : List (S62)) (a0_1 : Int) (a0_2 : Int) (r : Int) (w : World) (hr0_0 : Kd.C k62 w A0_0 l0_0.length l0_0) (hc0_0 : l0_0.length ≤ c0_0) (h : leadlag_countOn.f k l0_0 a0_1 a0_2 = some r) :
  Calls Try.prog 39 #[.agg #[.slice A0_0 l0_0.length c0_0,.int .i64 a0_1,.int .i64 a0_2],.func (.func 40) #[] #[]] w fun e w' => e = .returned (.int .i64 r)∧Below w.heap.size w w' :=
 leadlag_count.calls leadlag_on.f 40 Try.f40 #[] Try.func40 (by kernel_rfl) rfl k A0_0 c0_0 l0_0 a0_1 a0_2 r w (fun W_ _ x y z v hv => by rw [Array.append_empty];exact leadlag_on.calls x y z v W_ hv) hr0_0 hc0_0 h

/-! ### leadlag_Short: function 24 -/
def leadlag_Short.f (k : Nat) (l0_0 : List (S62)) (a0_1 : Int) (a0_2 : Int) (a1 : Int) : Option (Int):=(leadlag_countOn.f k l0_0 a0_1 a0_2).bind fun t139 => (some (mx 0 (wrap64 (a1 - t139))))
theorem leadlag_Short.mono : ∀ a0 a1 a2 a3 k,LeO (leadlag_Short.f k a0 a1 a2 a3) (leadlag_Short.f (k + 1) a0 a1 a2 a3):=by
 intro a0 a1 a2 a3 k
 unfold leadlag_Short.f
 repeat' first
   | (with_reducible exact leadlag_countOn.mono _ _ _ _)
   | (with_reducible exact LeO.refl _)
   | (with_reducible exact LeO.none _)
   | (with_reducible refine LeO.ite ?_ ?_)
   | (with_reducible refine LeO.bind ?_ (fun _ => ?_))
   | exact leadlag_countOn.mono _ _ _ _
   | exact LeO.none _
   | refine LeO.ite ?_ ?_
   | refine LeO.bind ?_ (fun _ => ?_)
set_option maxHeartbeats 8000000 in
set_option maxRecDepth 100000 in
theorem leadlag_Short.calls (k : Nat) (A0_0 : Option Addr) (c0_0 : Nat) (l0_0 : List (S62)) (a0_1 : Int) (a0_2 : Int) (a1 : Int) (r : Int) (w : World) (hr0_0 : Kd.C k62 w A0_0 l0_0.length l0_0) (hc0_0 : l0_0.length ≤ c0_0) (h : leadlag_Short.f k l0_0 a0_1 a0_2 a1 = some r) :
  Calls Try.prog 24 #[.agg #[.slice A0_0 l0_0.length c0_0,.int .i64 a0_1,.int .i64 a0_2],.int .i64 a1] w fun e w' => e = .returned (.int .i64 r)∧Below w.heap.size w w':=by
 have hu32:=Try.underlying32
 have HR0_0:=Aside0.mk hr0_0
 have HC0_0:=Aside0.mk hc0_0
 clear hr0_0 hc0_0
 have HB:=Aside0.mk (Below.refl w.heap.size w)
 have H : ((leadlag_countOn.f k l0_0 a0_1 a0_2).bind fun t139 => (some (mx 0 (wrap64 (a1 - t139))))) = some r:=h
 clear h
 replace H:=Option.bind_eq_some_iff.mp H
 obtain ⟨t139,A30,H⟩:=H
 replace H : (some (mx 0 (wrap64 (a1 - t139)))) = some r:=H
 have A3:=Aside0.mk A30
 clear A30
 obtain ⟨ji4,hji4⟩ : ∃ j_ : Int,(mx 0 (wrap64 (a1 - t139))) = j_:=⟨_,rfl⟩
 replace H : (some ji4) = some r:=by first|(rw [hji4] at H;exact H)|(simp only [hji4] at H ⊢;exact H)
 (try rw [hji4] at A3)
 (try (have hji4l : 0 ≤ ji4:=by (rw [← hji4];unfold mx;(repeat' split) <;> omega)))
 (try (have hji4m : 0 ≤ ji4:=by omega))
 have hji4_ : (if 0 < (wrap64 (a1 - t139)) then (wrap64 (a1 - t139)) else 0) = ji4:=hji4
 obtain rfl:=Option.some.inj H
 go_enter Try.func24,Try.ntmps24
 go_wp2_with (first|((with_reducible refine gate_dst (N:=2) rfl ?_);refine box_event ?hg (N:=2) ?hd (cs:=#[.slice A0_0 l0_0.length c0_0,.int .i64 a0_1,.int .i64 a0_2]) (t:=32) ?hr ?_;(case hd => rfl);(case hg => rfl);(case hr => first|(go_simp;done)|(go_simp;rfl));intro gb138 hg w5 hbox hb;have n0_:=Aside0.mk (below_step (by repeat (first|(with_reducible first|exact HB.out|apply below_alloc|apply pw_below_drewN|apply below_drew1)|exact HB.out)) hb);have n1_:=Aside0.mk (hbox);have n2_:=Aside0.mk ((by rw [hg];exact (below_size (by repeat (first|(with_reducible first|exact HB.out|apply below_alloc|apply pw_below_drewN|apply below_drew1)|exact HB.out))) : w.heap.size ≤ gb138));have n3_:=Aside0.mk ((by rw [hg];exact (below_size (by repeat (first|(with_reducible first|exact HB.out|apply below_alloc|apply pw_below_drewN|apply below_drew1)|exact HB.out))) : w.heap.size ≤ gb138));clear HB;have HB:=n0_;have BK138:=n1_;have GW138:=n2_;have GE138:=n3_;clear n0_ n1_ n2_ n3_;clear hb hbox hg;have hcz6_0 : w5.cell? ⟨gb138,0,none⟩ = some (.slice A0_0 l0_0.length c0_0):=(blk_cell BK138.out 0).trans rfl;have hcz6_1 : w5.cell? ⟨gb138,1,none⟩ = some (.int .i64 a0_1):=(blk_cell BK138.out 1).trans rfl;have hcz6_2 : w5.cell? ⟨gb138,2,none⟩ = some (.int .i64 a0_2):=(blk_cell BK138.out 2).trans rfl;have hfz6_0:=blk_frozen BK138.out 0;have hfz6_1:=blk_frozen BK138.out 1;have hfz6_2:=blk_frozen BK138.out 2)|((with_reducible refine gate_callee (f:=39) rfl ?_);refine goesL_ (some 7) rfl rfl Try.func39 (by kernel_rfl) rfl #[.agg #[.slice A0_0 l0_0.length c0_0,.int .i64 a0_1,.int .i64 a0_2],.func (.func 40) #[] #[]] rfl (by (try simp only [List.map_toArray,List.map_cons,List.map_nil]);first|done|rfl|(simp only [List.length_drop,List.length_take];rfl)) ?_;(with_reducible refine (leadlag_countOn.calls k _ _ l0_0 a0_1 a0_2 t139 _ ?side1 ?side2 A3.out).mono ?_);(case side1 => repeat (first|exact (Kd.C_below HR0_0.out HB.out)|(with_reducible refine Kd.C_alloc ?_ _)|(with_reducible refine Kd.C_drewN ?_ _)|(with_reducible refine Kd.C_drew ?_)));(case side2 => exact HC0_0.out);rintro e w7 ⟨rfl,hb⟩;refine ⟨_,rfl,?_⟩;have n0_:=Aside0.mk (blk_below (g:=gb138) (o:=.cells #[.slice A0_0 l0_0.length c0_0,.int .i64 a0_1,.int .i64 a0_2] 32 (0,0)) (by (with_reducible repeat (first|refine blk_drewN ?_ _|refine blk_drew ?_|refine blk_alloc ?_ _));exact BK138.out) hb);have n1_:=Aside0.mk (below_step (by repeat (first|(with_reducible first|exact HB.out|apply below_alloc|apply pw_below_drewN|apply below_drew1|refine below_set ?_ GE138.out)|exact HB.out)) hb);clear BK138;clear HB;have BK138:=n0_;have HB:=n1_;clear n0_ n1_;(try clear hb);(try clear hb2);(try clear hk);(try clear hi)))
 go_ret
 exact ⟨by first|rfl|(simp [errW_none,errW_some] <;> rfl)|(simp only [← hji4];first|rfl|(simp [errW_none,errW_some] <;> rfl))|(simp [*,errW_none,errW_some] <;> rfl),by repeat (first|(with_reducible first|exact HB.out|apply below_alloc|apply pw_below_drewN|apply below_drew1|refine below_set ?_ GE138.out)|exact HB.out)⟩

/-! ### leadlag_timely: function 41 -/
def leadlag_timely.f (l0_0 : List (S62)) (a0_1 : Int) (a0_2 : Int) (a1 : Int) : Option (Bool):=(leadlag_instant.f a1).bind fun t141 => (if t141 = true then (if a1 ≥ a0_2 then (some (decide (a1 ≥ a0_1))) else (some false)) else (some false))
set_option maxHeartbeats 8000000 in
set_option maxRecDepth 100000 in
theorem leadlag_timely.calls (A0_0 : Option Addr) (c0_0 : Nat) (l0_0 : List (S62)) (a0_1 : Int) (a0_2 : Int) (a1 : Int) (r : Bool) (w : World) (hr0_0 : Kd.C k62 w A0_0 l0_0.length l0_0) (hc0_0 : l0_0.length ≤ c0_0) (h : leadlag_timely.f l0_0 a0_1 a0_2 a1 = some r) :
  Calls Try.prog 41 #[.agg #[.slice A0_0 l0_0.length c0_0,.int .i64 a0_1,.int .i64 a0_2],.int .i64 a1] w fun e w' => e = .returned (.bool r)∧Below w.heap.size w w':=by
 have hu32:=Try.underlying32
 have HR0_0:=Aside0.mk hr0_0
 have HC0_0:=Aside0.mk hc0_0
 clear hr0_0 hc0_0
 have HB:=Aside0.mk (Below.refl w.heap.size w)
 have H : ((leadlag_instant.f a1).bind fun t141 => (if t141 = true then (if a1 ≥ a0_2 then (some (decide (a1 ≥ a0_1))) else (some false)) else (some false))) = some r:=h
 clear h
 replace H:=Option.bind_eq_some_iff.mp H
 obtain ⟨t141,A30,H⟩:=H
 replace H : (if t141 = true then (if a1 ≥ a0_2 then (some (decide (a1 ≥ a0_1))) else (some false)) else (some false)) = some r:=H
 have A3:=Aside0.mk A30
 clear A30
 by_cases c4 : t141 = true
 rotate_left
 ·replace c4:=Bool.eq_false_iff.mpr c4
  subst c4
  have H1 : (some false) = some r:=by rw [if_neg (show ¬ (false = true) by decide)] at H;exact H
  clear H
  have H:=H1
  clear H1
  obtain rfl:=Option.some.inj H
  go_enter Try.func41,Try.ntmps41
  go_wp2_with (first|((with_reducible refine gate_dst (N:=2) rfl ?_);refine box_event ?hg (N:=2) ?hd (cs:=#[.slice A0_0 l0_0.length c0_0,.int .i64 a0_1,.int .i64 a0_2]) (t:=32) ?hr ?_;(case hd => rfl);(case hg => rfl);(case hr => first|(go_simp;done)|(go_simp;rfl));intro gb140 hg w10 hbox hb;have n0_:=Aside0.mk (below_step (by repeat (first|(with_reducible first|exact HB.out|apply below_alloc|apply pw_below_drewN|apply below_drew1)|exact HB.out)) hb);have n1_:=Aside0.mk (hbox);have n2_:=Aside0.mk ((by rw [hg];exact (below_size (by repeat (first|(with_reducible first|exact HB.out|apply below_alloc|apply pw_below_drewN|apply below_drew1)|exact HB.out))) : w.heap.size ≤ gb140));have n3_:=Aside0.mk ((by rw [hg];exact (below_size (by repeat (first|(with_reducible first|exact HB.out|apply below_alloc|apply pw_below_drewN|apply below_drew1)|exact HB.out))) : w.heap.size ≤ gb140));clear HB;have HB:=n0_;have BK140:=n1_;have GW140:=n2_;have GE140:=n3_;clear n0_ n1_ n2_ n3_;clear hb hbox hg)|((with_reducible refine gate_callee (f:=30) rfl ?_);refine goesL_ (some 6) rfl rfl Try.func30 (by kernel_rfl) rfl #[.int .i64 a1] rfl (by (try simp only [List.map_toArray,List.map_cons,List.map_nil]);first|done|rfl|(simp only [List.length_drop,List.length_take];rfl)) ?_;(with_reducible refine (leadlag_instant.calls a1 false _ A3.out).mono ?_);rintro e w' ⟨rfl,⟨nd,rfl⟩⟩;refine ⟨_,rfl,?_⟩))
  go_ret
  exact ⟨by first|rfl|(simp [errW_none,errW_some] <;> rfl)|(simp [*,errW_none,errW_some] <;> rfl),by repeat (first|(with_reducible first|exact HB.out|apply below_alloc|apply pw_below_drewN|apply below_drew1|refine below_set ?_ GE140.out)|exact HB.out)⟩


 subst c4
 have H1 : (if a1 ≥ a0_2 then (some (decide (a1 ≥ a0_1))) else (some false)) = some r:=by rw [if_pos rfl] at H;exact H
 clear H
 have H:=H1
 clear H1
 by_cases c5 : a1 ≥ a0_2
 ·rw [if_pos c5] at H
  have c5b0 : decide (a0_2 ≤ a1) = true:=decide_eq_true c5
  clear c5
  obtain rfl:=Option.some.inj H
  go_enter Try.func41,Try.ntmps41
  go_wp2_with (first|((with_reducible refine gate_dst (N:=2) rfl ?_);refine box_event ?hg (N:=2) ?hd (cs:=#[.slice A0_0 l0_0.length c0_0,.int .i64 a0_1,.int .i64 a0_2]) (t:=32) ?hr ?_;(case hd => rfl);(case hg => rfl);(case hr => first|(go_simp;done)|(go_simp;rfl));intro gb140 hg w6 hbox hb;have n0_:=Aside0.mk (below_step (by repeat (first|(with_reducible first|exact HB.out|apply below_alloc|apply pw_below_drewN|apply below_drew1)|exact HB.out)) hb);have n1_:=Aside0.mk (hbox);have n2_:=Aside0.mk ((by rw [hg];exact (below_size (by repeat (first|(with_reducible first|exact HB.out|apply below_alloc|apply pw_below_drewN|apply below_drew1)|exact HB.out))) : w.heap.size ≤ gb140));have n3_:=Aside0.mk ((by rw [hg];exact (below_size (by repeat (first|(with_reducible first|exact HB.out|apply below_alloc|apply pw_below_drewN|apply below_drew1)|exact HB.out))) : w.heap.size ≤ gb140));clear HB;have HB:=n0_;have BK140:=n1_;have GW140:=n2_;have GE140:=n3_;clear n0_ n1_ n2_ n3_;clear hb hbox hg)|((with_reducible refine gate_callee (f:=30) rfl ?_);refine goesL_ (some 6) rfl rfl Try.func30 (by kernel_rfl) rfl #[.int .i64 a1] rfl (by (try simp only [List.map_toArray,List.map_cons,List.map_nil]);first|done|rfl|(simp only [List.length_drop,List.length_take];rfl)) ?_;(with_reducible refine (leadlag_instant.calls a1 true _ A3.out).mono ?_);rintro e w' ⟨rfl,⟨nd,rfl⟩⟩;refine ⟨_,rfl,?_⟩;have hcz7_0 : w6.cell? ⟨gb140,0,none⟩ = some (.slice A0_0 l0_0.length c0_0):=(blk_cell BK140.out 0).trans rfl;have hcz7_1 : w6.cell? ⟨gb140,1,none⟩ = some (.int .i64 a0_1):=(blk_cell BK140.out 1).trans rfl;have hcz7_2 : w6.cell? ⟨gb140,2,none⟩ = some (.int .i64 a0_2):=(blk_cell BK140.out 2).trans rfl;have hfz7_0:=blk_frozen BK140.out 0;have hfz7_1:=blk_frozen BK140.out 1;have hfz7_2:=blk_frozen BK140.out 2))
  go_ret
  exact ⟨by first|rfl|(simp [errW_none,errW_some] <;> rfl)|(simp [*,errW_none,errW_some] <;> rfl),by repeat (first|(with_reducible first|exact HB.out|apply below_alloc|apply pw_below_drewN|apply below_drew1|refine below_set ?_ GE140.out)|exact HB.out)⟩
 rw [if_neg c5] at H
 have c5b0 : decide (a0_2 ≤ a1) = false:=decide_eq_false c5
 clear c5
 obtain rfl:=Option.some.inj H
 go_enter Try.func41,Try.ntmps41
 go_wp2_with (first|((with_reducible refine gate_dst (N:=2) rfl ?_);refine box_event ?hg (N:=2) ?hd (cs:=#[.slice A0_0 l0_0.length c0_0,.int .i64 a0_1,.int .i64 a0_2]) (t:=32) ?hr ?_;(case hd => rfl);(case hg => rfl);(case hr => first|(go_simp;done)|(go_simp;rfl));intro gb140 hg w8 hbox hb;have n0_:=Aside0.mk (below_step (by repeat (first|(with_reducible first|exact HB.out|apply below_alloc|apply pw_below_drewN|apply below_drew1)|exact HB.out)) hb);have n1_:=Aside0.mk (hbox);have n2_:=Aside0.mk ((by rw [hg];exact (below_size (by repeat (first|(with_reducible first|exact HB.out|apply below_alloc|apply pw_below_drewN|apply below_drew1)|exact HB.out))) : w.heap.size ≤ gb140));have n3_:=Aside0.mk ((by rw [hg];exact (below_size (by repeat (first|(with_reducible first|exact HB.out|apply below_alloc|apply pw_below_drewN|apply below_drew1)|exact HB.out))) : w.heap.size ≤ gb140));clear HB;have HB:=n0_;have BK140:=n1_;have GW140:=n2_;have GE140:=n3_;clear n0_ n1_ n2_ n3_;clear hb hbox hg)|((with_reducible refine gate_callee (f:=30) rfl ?_);refine goesL_ (some 6) rfl rfl Try.func30 (by kernel_rfl) rfl #[.int .i64 a1] rfl (by (try simp only [List.map_toArray,List.map_cons,List.map_nil]);first|done|rfl|(simp only [List.length_drop,List.length_take];rfl)) ?_;(with_reducible refine (leadlag_instant.calls a1 true _ A3.out).mono ?_);rintro e w' ⟨rfl,⟨nd,rfl⟩⟩;refine ⟨_,rfl,?_⟩;have hcz9_0 : w8.cell? ⟨gb140,0,none⟩ = some (.slice A0_0 l0_0.length c0_0):=(blk_cell BK140.out 0).trans rfl;have hcz9_1 : w8.cell? ⟨gb140,1,none⟩ = some (.int .i64 a0_1):=(blk_cell BK140.out 1).trans rfl;have hcz9_2 : w8.cell? ⟨gb140,2,none⟩ = some (.int .i64 a0_2):=(blk_cell BK140.out 2).trans rfl;have hfz9_0:=blk_frozen BK140.out 0;have hfz9_1:=blk_frozen BK140.out 1;have hfz9_2:=blk_frozen BK140.out 2))
 go_ret
 exact ⟨by first|rfl|(simp [errW_none,errW_some] <;> rfl)|(simp [*,errW_none,errW_some] <;> rfl),by repeat (first|(with_reducible first|exact HB.out|apply below_alloc|apply pw_below_drewN|apply below_drew1|refine below_set ?_ GE140.out)|exact HB.out)⟩
/-! ### slices_IndexFunc_int_int: function 49 -/
-- told with IndexFunc

/-! ### leadlag_step_1: function 48 -/
def leadlag_step_1.f (a0_0 : Int) (a0_1 : Bool) (a0_2 : Bool) : Option (Bool):=some (!a0_2)
set_option maxHeartbeats 8000000 in
set_option maxRecDepth 100000 in
theorem leadlag_step_1.calls (a0_0 : Int) (a0_1 : Bool) (a0_2 : Bool) (r : Bool) (w : World) (h : leadlag_step_1.f a0_0 a0_1 a0_2 = some r) :
  Calls Try.prog 48 #[.agg #[.int .i64 a0_0,.bool a0_1,.bool a0_2]] w fun e w' => e = .returned (.bool r)∧Below w.heap.size w w':=by
 have hu62:=Try.underlying62
 have HB:=Aside0.mk (Below.refl w.heap.size w)
 have H : (some (!a0_2)) = some r:=h
 clear h
 obtain rfl:=Option.some.inj H
 go_enter Try.func48,Try.ntmps48
 go_wp2_with (first|((with_reducible refine gate_dst (N:=1) rfl ?_);refine box_event ?hg (N:=1) ?hd (cs:=#[.int .i64 a0_0,.bool a0_1,.bool a0_2]) (t:=62) ?hr ?_;(case hd => rfl);(case hg => rfl);(case hr => first|(go_simp;done)|(go_simp;rfl));intro gb142 hg w2 hbox hb;have n0_:=Aside0.mk (below_step (by repeat (first|(with_reducible first|exact HB.out|apply below_alloc|apply pw_below_drewN|apply below_drew1)|exact HB.out)) hb);have n1_:=Aside0.mk (hbox);have n2_:=Aside0.mk ((by rw [hg];exact (below_size (by repeat (first|(with_reducible first|exact HB.out|apply below_alloc|apply pw_below_drewN|apply below_drew1)|exact HB.out))) : w.heap.size ≤ gb142));have n3_:=Aside0.mk ((by rw [hg];exact (below_size (by repeat (first|(with_reducible first|exact HB.out|apply below_alloc|apply pw_below_drewN|apply below_drew1)|exact HB.out))) : w.heap.size ≤ gb142));clear HB;have HB:=n0_;have BK142:=n1_;have GW142:=n2_;have GE142:=n3_;clear n0_ n1_ n2_ n3_;clear hb hbox hg;have hcz3_0 : w2.cell? ⟨gb142,0,none⟩ = some (.int .i64 a0_0):=(blk_cell BK142.out 0).trans rfl;have hcz3_1 : w2.cell? ⟨gb142,1,none⟩ = some (.bool a0_1):=(blk_cell BK142.out 1).trans rfl;have hcz3_2 : w2.cell? ⟨gb142,2,none⟩ = some (.bool a0_2):=(blk_cell BK142.out 2).trans rfl;have hfz3_0:=blk_frozen BK142.out 0;have hfz3_1:=blk_frozen BK142.out 1;have hfz3_2:=blk_frozen BK142.out 2))
 go_ret
 exact ⟨by first|rfl|(simp [errW_none,errW_some] <;> rfl)|(simp [*,errW_none,errW_some] <;> rfl),by repeat (first|(with_reducible first|exact HB.out|apply below_alloc|apply pw_below_drewN|apply below_drew1|refine below_set ?_ GE142.out)|exact HB.out)⟩


/-! ### leadlag_countWell: function 72 -/
def leadlag_countWell.f (k : Nat) (l0_0 : List (S62)) (a0_1 : Int) (a0_2 : Int) : Option Int:=leadlag_count.f leadlag_step_1.f k l0_0 a0_1 a0_2
theorem leadlag_countWell.mono : ∀ a0 a1 a2 k,LeO (leadlag_countWell.f k a0 a1 a2) (leadlag_countWell.f (k + 1) a0 a1 a2):=leadlag_count.mono leadlag_step_1.f
theorem leadlag_countWell.calls (k : Nat) (A0_0 : Option Addr) (c0_0 : Nat) (l0_0 : List (S62)) (a0_1 : Int) (a0_2 : Int) (r : Int) (w : World) (hr0_0 : Kd.C k62 w A0_0 l0_0.length l0_0) (hc0_0 : l0_0.length ≤ c0_0) (h : leadlag_countWell.f k l0_0 a0_1 a0_2 = some r) :
  Calls Try.prog 39 #[.agg #[.slice A0_0 l0_0.length c0_0,.int .i64 a0_1,.int .i64 a0_2],.func (.func 48) #[] #[]] w fun e w' => e = .returned (.int .i64 r)∧Below w.heap.size w w' :=
 leadlag_count.calls leadlag_step_1.f 48 Try.f48 #[] Try.func48 (by kernel_rfl) rfl k A0_0 c0_0 l0_0 a0_1 a0_2 r w (fun W_ _ x y z v hv => by rw [Array.append_empty];exact leadlag_step_1.calls x y z v W_ hv) hr0_0 hc0_0 h

-- NOT PRINTED: function 50 (leadlag_step_2)


/-! ### leadlag_firstOff: function 75 -/
def leadlag_step_2.p (l1 : List S62) (x : Int) : Option Bool:=if 0 ≤ x then (if x < (l1.length : Int) then some (!(rd_T62 l1 x).f1) else none) else none
set_option maxHeartbeats 1000000 in
theorem leadlag_step_2.calls (l1 : List S62) (A1 : Option Addr) (c1 : Nat) (g : Nat) (x : Int) (v : Bool) (w : World) (hg : w.heap[g]? = some (.cells #[.slice A1 l1.length c1] 30 (0,0))) (hr : Kd.C k62 w A1 l1.length l1) (h : leadlag_step_2.p l1 x = some v) :
  Calls Try.prog 50 #[.int .i64 x,.pointer (some ⟨g,0,none⟩)] w fun e w' => e = .returned (.bool v)∧Below w.heap.size w w':=by
 have HB:=Aside0.mk (Below.refl w.heap.size w)
 have hu62:=Try.underlying62
 unfold leadlag_step_2.p at h
 by_cases c1_ : 0 ≤ x
 rotate_left
 ·rw [if_neg c1_] at h
  cases h
 rw [if_pos c1_] at h
 by_cases c2_ : x < (l1.length : Int)
 rotate_left
 ·rw [if_neg c2_] at h
  cases h
 rw [if_pos c2_] at h
 obtain rfl:=Option.some.inj h
 obtain ⟨ad,e,hx0,hx1,hx2⟩:=at_T62 hr x c1_ c2_
 cases e
 have hz : w.cell? ⟨g,0,none⟩ = some (.slice (some ad) l1.length c1):=(blk_cell hg 0).trans rfl
 have p1:=eq_true c1_
 have q1:=eq_true c2_
 clear c1_ c2_ h
 go_enter Try.func50,Try.ntmps50
 go_wp2
 go_ret
 exact ⟨rfl,by repeat (first|(with_reducible first|exact HB.out|apply below_alloc|apply pw_below_drewN|apply below_drew1)|exact HB.out)⟩
def leadlag_firstOff.f (k : Nat) (l0 : List Int) (l1 : List S62) : Option Int:=slices_IndexFunc_int_int.f (leadlag_step_2.p l1) k l0
theorem leadlag_firstOff.mono : ∀ a0 a1 k,LeO (leadlag_firstOff.f k a0 a1) (leadlag_firstOff.f (k + 1) a0 a1):=fun a0 a1 k => slices_IndexFunc_int_int.mono _ a0 k
theorem leadlag_firstOff.calls (k : Nat) (A0 : Option Addr) (c0 : Nat) (l0 : List Int) (A1 : Option Addr) (c1 : Nat) (l1 : List S62) (r : Int) (w : World) (g : Nat) (hg : w.heap[g]? = some (.cells #[.slice A1 l1.length c1] 30 (0,0))) (hr0 : Kd.C (Kd.int .i64) w A0 l0.length l0) (hc0 : l0.length ≤ c0) (hr1 : Kd.C k62 w A1 l1.length l1) (hc1 : l1.length ≤ c1) (h : leadlag_firstOff.f k l0 l1 = some r) :
  Calls Try.prog 49 #[.slice A0 l0.length c0,.func (.func 50) #[] #[.pointer (some ⟨g,0,none⟩)]] w fun e w' => e = .returned (.int .i64 r)∧Below w.heap.size w w' :=
 slices_IndexFunc_int_int.calls (leadlag_step_2.p l1) 50 Try.f50 #[.pointer (some ⟨g,0,none⟩)] Try.func50 (by kernel_rfl) rfl k A0 c0 l0 r w (fun W_ hb x v hv => leadlag_step_2.calls l1 A1 c1 g x v W_ (blk_below hg hb) (Kd.C_below hr1 hb) hv) hr0 hc0 h


/-! ### leadlag_copyUnits: function 76 -/
def leadlag_copyUnits.f (l0 l1 : List S62) : Option (List S62):=if l0.length = l1.length then some l1 else none
def leadlag_copyUnits.cells : List S62→List Value
 | [] => []
 | x :: xs => [.int .i64 x.f0,.bool x.f1,.bool x.f2] ++ leadlag_copyUnits.cells xs
theorem leadlag_copyUnits.cells_len : ∀ xs : List S62,(leadlag_copyUnits.cells xs).length = xs.length * 3
 | [] => rfl
 | x :: xs => by
  simp only [leadlag_copyUnits.cells,List.length_append,leadlag_copyUnits.cells_len xs,List.length_cons,List.length_nil]
  omega
theorem leadlag_copyUnits.one : ∀ xs : List S62,∀ v ∈ leadlag_copyUnits.cells xs,v.oneCell' = true
 | [],v,h => by cases h
 | x :: xs,v,h => by
  simp only [leadlag_copyUnits.cells,List.mem_append] at h
  rcases h with h | h
  ·simp only [List.mem_cons,List.not_mem_nil,or_false] at h
   rcases h with rfl | rfl | rfl <;> rfl
  ·exact leadlag_copyUnits.one xs v h
theorem leadlag_copyUnits.setCells_append (g : Nat) : ∀ (a b : List Value) (o : Nat) (w : World),w.setCells g o (a ++ b) = (w.setCells g o a).setCells g (o + a.length) b
 | [],b,o,w => rfl
 | v :: a,b,o,w => by
  show (w.setCell ⟨g,o,none⟩ v).setCells g (o + 1) (a ++ b) = ((w.setCell ⟨g,o,none⟩ v).setCells g (o + 1) a).setCells g (o + (a.length + 1)) b
  rw [leadlag_copyUnits.setCells_append g a b (o + 1) _,show o + 1 + a.length = o + (a.length + 1) by omega]
theorem leadlag_copyUnits.src {w : World} {ad : Addr} : ∀ (xs : List S62) (i : Nat),(∀ j (p : S62),xs[j]? = some p→∃ c : List Value,c.length = 3∧k62.K w p c∧∀ q u,c[q]? = some u→w.cell? (ad.add ((i + j) * 3 + q)) = some u) →
  ∀ j v,(leadlag_copyUnits.cells xs)[j]? = some v→w.cell? (ad.add (i * 3 + j)) = some v
 | [],i,h,j,v,hv => by simp [leadlag_copyUnits.cells] at hv
 | x :: xs,i,h,j,v,hv => by
  obtain ⟨c,hl,hK,hc⟩:=h 0 x rfl
  obtain rfl:=k62_open hK
  simp only [leadlag_copyUnits.cells] at hv
  by_cases hj : j < 3
  ·rw [List.getElem?_append_left (by simpa using hj)] at hv
   have:=hc j v hv
   rwa [Nat.add_zero] at this
  rw [List.getElem?_append_right (by simp;omega)] at hv
  have ih:=leadlag_copyUnits.src xs (i + 1) (fun j' p hp => by
   obtain ⟨c',h1,h2,h3⟩:=h (j' + 1) p (by simpa using hp)
   exact ⟨c',h1,h2,fun q u hq => by have:=h3 q u hq;rwa [show i + (j' + 1) = i + 1 + j' by omega] at this⟩) (j - 3) v (by simpa using hv)
  rwa [show (i + 1) * 3 + (j - 3) = i * 3 + j by omega] at ih
theorem leadlag_copyUnits.fill {base g n cap : Nat} {ok : Nat→Prop} : ∀ (zs : List S62) (i : Nat) (xs : List S62) (W : World),i + zs.length = n→Kd.R k62 62 W base ok (.slice (some ⟨g,0,none⟩) n cap) xs →
  Kd.R k62 62 (W.setCells g (i * 3) (leadlag_copyUnits.cells zs)) base ok (.slice (some ⟨g,0,none⟩) n cap) (xs.take i ++ zs)∧W.grownBy (W.setCells g (i * 3) (leadlag_copyUnits.cells zs)) (some g)
 | [],i,xs,W,h,hr => by
  have hn:=(Kd.R_reads' hr).1
  refine ⟨?_,by simpa [leadlag_copyUnits.cells,World.setCells] using (World.grownBy.refl W (some g))⟩
  rw [List.append_nil,List.take_of_length_le (by simp at h;omega)]
  simpa [leadlag_copyUnits.cells,World.setCells] using hr
 | z :: zs,i,xs,W,h,hr => by
  have hn:=(Kd.R_reads' hr).1
  simp only [List.length_cons] at h
  obtain ⟨ce,hcl,hM,hcc,hfr⟩:=Kd.R_elem hr z62 (i : Int) (by omega) (by omega)
  rw [Int.toNat_natCast] at hcc
  have hP:=Kd.R_seg hr (i : Int) (by omega) (by omega) (c:=ce) (seg:=[.int .i64 z.f0,.bool z.f1,.bool z.f2]) (j:=0) hcl (by rw [Int.toNat_natCast];exact hcc) (show 3 ≤ 3 from by decide) (x':=z) (okp:=fun _ => False) (by
   have e : ce.drop 3 = []:=List.drop_eq_nil_of_le (by rw [hcl];exact Nat.le_refl 3)
   have this : k62.M W base (fun _ => False) z [.int .i64 z.f0,.bool z.f1,.bool z.f2]:=k62_mkM W base (fun _ => False) z
   simpa [e] using this) (fun _ hk => hk.elim)
  rw [Int.toNat_natCast,show i * k62.sz + 0 = i * 3 from rfl] at hP
  obtain ⟨h3,h4⟩:=leadlag_copyUnits.fill zs (i + 1) _ _ (by omega) hP.1
  have e : W.setCells g (i * 3) (leadlag_copyUnits.cells (z :: zs)) = (W.setCells g (i * 3) [.int .i64 z.f0,.bool z.f1,.bool z.f2]).setCells g ((i + 1) * 3) (leadlag_copyUnits.cells zs):=by
   simp only [leadlag_copyUnits.cells]
   rw [leadlag_copyUnits.setCells_append]
   congr 1
   simp
   omega
  rw [e]
  refine ⟨?_,hP.2.trans h4⟩
  have e2 : (xs.set i z).take (i + 1) ++ zs = xs.take i ++ z :: zs:=by
   rw [List.take_succ_eq_append_getElem (by simp;omega),List.take_set_of_le (Nat.le_refl _)]
   simp
  rw [← e2]
  exact h3
theorem leadlag_copyUnits.event {ops : Array Oper} {rest : List Oper} {o : Oper} {a : Act} {w : World} {Q : Exit→Act→World→Prop} {w0 : World} {A : Option Addr} {n cap : Nat} {xs l1 : List S62} {A1 : Option Addr} {c1 : Nat} (N : Tmp) (hdst : o.dst = some N) (hgd : o.guard = none) (d s : Operand)
  (ho : o.op = .call { callee:=.builtin .copy,args:=#[d,s],argTypes:=#[30,30] }) (hd : a.eval d = .slice A n cap) (hs : a.eval s = .slice A1 l1.length c1)
  (hB : Below w0.heap.size w0 w) (ho0 : Kd.R k62 62 w w0.heap.size (fun k_ => some k_ = (Value.slice A n cap).ownBlock) (.slice A n cap) xs) (hc : Kd.C k62 w A1 l1.length l1) (hlen : xs.length = l1.length)
  (h : ∀ W2,Kd.R k62 62 W2 w0.heap.size (fun k_ => (some k_ = (Value.slice A n cap).ownBlock ∨ w.heap.size ≤ k_)) (.slice A n cap) l1→Below w0.heap.size w0 W2→Kept w W2 (fun k_ => some k_ = (Value.slice A n cap).ownBlock)→wpList Try.prog ops Q rest (a.put (some N) (.int .i64 l1.length)) W2) : wpList Try.prog ops Q (o :: rest) a w:=by
 refine wpList_plain hgd fun K hK => ?_
 obtain ⟨hn,hcap,_⟩:=Kd.R_reads' ho0
 have hrun : ∃ W2,(∀ ty,(Builtin.copy_ #[30,30] ty #[.slice A n cap,.slice A1 l1.length c1]).run Try.prog w = .ok (.int .i64 l1.length) W2)∧Kd.R k62 62 W2 w0.heap.size (fun k_ => some k_ = (Value.slice A n cap).ownBlock) (.slice A n cap) l1∧w.grownBy W2 (Value.slice A n cap).ownBlock∧Below w0.heap.size w0 W2:=by
  obtain ⟨i0,hi,_,hsz,_⟩:=info_parts info62
  rcases Nat.eq_zero_or_pos n with h0 | hp
  ·obtain rfl : l1 = []:=List.eq_nil_of_length_eq_zero (by omega)
   obtain rfl : xs = []:=List.eq_nil_of_length_eq_zero (by omega)
   refine ⟨w,fun ty => ?_,ho0,World.grownBy.refl _ _,hB⟩
   subst h0
   have hl0 : ∀ a : Addr,(loadCells a 0).run Try.prog w = .ok #[] w:=fun a => by simpa using run_loadCells_list (P:=Try.prog) w a [] (fun j v hv => by simp at hv)
   cases A1 <;> cases A <;> simp [Builtin.copy_,run_underlying Try.underlying30,Builtin.lenOf,Builtin.firstCells,sizeOf,typeInfo,hi,hl0,storeCells,goInt]
  ·obtain ⟨g,c,e,hb,hl,hh⟩:=Kd.R_form ho0 (by omega)
   injection e with e1 e2 e3
   subst e1
   obtain ⟨ad,eA,hcells⟩:=hc.2.2 (by omega)
   subst eA
   have hsrc:=leadlag_copyUnits.src l1 0 (fun j p hp => by
    obtain ⟨c',q1,q2,q3⟩:=hcells j p hp
    exact ⟨c',q1,q2,fun q u hq => by rw [Nat.zero_add];exact q3 q u hq⟩)
   simp only [Nat.zero_mul,Nat.zero_add] at hsrc
   obtain ⟨f1,f2⟩:=leadlag_copyUnits.fill l1 0 xs w (by omega) ho0
   rw [List.take_zero,List.nil_append,Nat.zero_mul] at f1
   rw [Nat.zero_mul] at f2
   have hcell : ∀ j,j < (leadlag_copyUnits.cells l1).length→(w.cell? ⟨g,0 + 0 + j,none⟩).isSome = true∧w.frozen? ⟨g,0 + 0 + j,none⟩ = false:=by
    intro j hj
    rw [leadlag_copyUnits.cells_len] at hj
    obtain ⟨ce,hcl,hM,hcc,hfr⟩:=Kd.R_elem ho0 z62 ((j / 3 : Nat) : Int) (by omega) (by omega)
    rw [Int.toNat_natCast] at hcc hfr
    have e : 0 + 0 + j = j / 3 * 3 + j % 3:=by omega
    have hlen : j % 3 < ce.length:=by
     rw [hcl]
     exact Nat.mod_lt _ (by decide)
    refine ⟨?_,?_⟩
    ·have:=hcc (j % 3) _ (List.getElem?_eq_getElem hlen)
     rw [e]
     rw [show j / 3 * k62.sz = j / 3 * 3 from rfl] at this
     rw [this]
     rfl
    ·rw [e]
     exact hfr (j % 3)
   have hld:=run_loadCells_list (P:=Try.prog) w ad (leadlag_copyUnits.cells l1) hsrc
   have hst:=run_storeCells_cells (P:=Try.prog) g 0 (leadlag_copyUnits.cells l1) 0 w (fun j hj => (hcell j hj).1) (fun j hj => (hcell j hj).2) (leadlag_copyUnits.one l1)
   rw [leadlag_copyUnits.cells_len] at hld
   refine ⟨_,fun ty => ?_,f1,f2,below_setCells hb _ _ _ hB⟩
   have hmin : Nat.min l1.length n = l1.length:=by
    rw [show n = l1.length by omega]
    exact Nat.min_self _
   simp [Builtin.copy_,run_underlying Try.underlying30,Builtin.lenOf,Builtin.firstCells,sizeOf,typeInfo,hi,hsz,hmin,hld,hst,goInt]
 obtain ⟨W2,hrun,hr,hg,hbl⟩:=hrun
 have hk:=h W2 (Kd.R_mono hr (fun _ hk => .inl hk)) hbl (Kept.of_grown hg (Kept.refl w _) (fun k e => .inl e.symm))
 unfold Oper.wp
 simp [execOp,ho,resolve,invoke,builtin,hd,hs,hrun,Result.andThen,hdst]
 rw [← hdst] at hk
 exact hK _ _ (by simpa [hdst] using hk)
theorem leadlag_copyUnits.inv {l0 l1 r : List S62} (h : leadlag_copyUnits.f l0 l1 = some r) : l0.length = l1.length∧r = l1:=by
 unfold leadlag_copyUnits.f at h
 by_cases c : l0.length = l1.length
 ·rw [if_pos c] at h
  exact ⟨c,(Option.some.inj h).symm⟩
 rw [if_neg c] at h
 cases h
theorem k62_mkM_of (w : World) (base : Nat) (ok : Nat→Prop) (x : S62) {cs : List Value} (h : cs = [.int .i64 x.f0,.bool x.f1,.bool x.f2]) : k62.M w base ok x cs:=by
 subst h
 exact k62_mkM w base ok x
theorem k62_cons3 {a b b' c : Value} (h : b = b') : [a,b,c] = [a,b',c]:=by rw [h]

end Go.Proofs.Ytbecejhjdagkdaa.L
