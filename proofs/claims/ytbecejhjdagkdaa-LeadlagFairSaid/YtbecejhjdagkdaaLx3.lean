-- Written by pp.py (a program of this session, over the kit's print.py) out of the translation. Not trusted: Lean checks it.
import Derived.Test.YtbecejhjdagkdaaLx0
import Derived.Test.YtbecejhjdagkdaaLx1
import Derived.Test.YtbecejhjdagkdaaLx2
namespace Go.Proofs.Ytbecejhjdagkdaa.L
open Go.RowKit Go.Proofs.YtbecejhjdagkdaaW.PrintWords Go.Proofs.YtbecejhjdagkdaaW.PrintLast Go.Proofs.YtbecejhjdagkdaaW.PrintMore
attribute [local go_sem] max2_int min2_int max_two min_two max_three min_three max_four min_four   -- for this text's walks alone
attribute [local go_sem] pp_mod256 pp_mod256_w
set_option linter.unusedVariables false
set_option linter.unusedSimpArgs false


/-! ### leadlag_Unit_34: function 34 -/
-- told with IndexFunc

/-! ### leadlag_Check_1: function 33 -/
def leadlag_Check_1.f (a0_0 : Int) (a0_1 : Bool) (a0_2 : Bool) : Option (Bool):=(leadlag_instant.f a0_0).bind fun t119 => (if t119 = true then (if a0_1 = true then (some a0_2) else (some false)) else (some true))
set_option maxHeartbeats 8000000 in
set_option maxRecDepth 100000 in
theorem leadlag_Check_1.calls (a0_0 : Int) (a0_1 : Bool) (a0_2 : Bool) (r : Bool) (w : World) (h : leadlag_Check_1.f a0_0 a0_1 a0_2 = some r) :
  Calls Try.prog 33 #[.agg #[.int .i64 a0_0,.bool a0_1,.bool a0_2]] w fun e w' => e = .returned (.bool r)∧Below w.heap.size w w':=by
 have hu62:=Try.underlying62
 have HB:=Aside0.mk (Below.refl w.heap.size w)
 have H : ((leadlag_instant.f a0_0).bind fun t119 => (if t119 = true then (if a0_1 = true then (some a0_2) else (some false)) else (some true))) = some r:=h
 clear h
 replace H:=Option.bind_eq_some_iff.mp H
 obtain ⟨t119,A20,H⟩:=H
 replace H : (if t119 = true then (if a0_1 = true then (some a0_2) else (some false)) else (some true)) = some r:=H
 have A2:=Aside0.mk A20
 clear A20
 by_cases c3 : t119 = true
 rotate_left
 ·replace c3:=Bool.eq_false_iff.mpr c3
  subst c3
  have H1 : (some true) = some r:=by rw [if_neg (show ¬ (false = true) by decide)] at H;exact H
  clear H
  have H:=H1
  clear H1
  obtain rfl:=Option.some.inj H
  go_enter Try.func33,Try.ntmps33
  go_wp2_with (first|((with_reducible refine gate_dst (N:=1) rfl ?_);refine box_event ?hg (N:=1) ?hd (cs:=#[.int .i64 a0_0,.bool a0_1,.bool a0_2]) (t:=62) ?hr ?_;(case hd => rfl);(case hg => rfl);(case hr => first|(go_simp;done)|(go_simp;rfl));intro gb118 hg w9 hbox hb;have n0_:=Aside0.mk (below_step (by repeat (first|(with_reducible first|exact HB.out|apply below_alloc|apply pw_below_drewN|apply below_drew1)|exact HB.out)) hb);have n1_:=Aside0.mk (hbox);have n2_:=Aside0.mk ((by rw [hg];exact (below_size (by repeat (first|(with_reducible first|exact HB.out|apply below_alloc|apply pw_below_drewN|apply below_drew1)|exact HB.out))) : w.heap.size ≤ gb118));have n3_:=Aside0.mk ((by rw [hg];exact (below_size (by repeat (first|(with_reducible first|exact HB.out|apply below_alloc|apply pw_below_drewN|apply below_drew1)|exact HB.out))) : w.heap.size ≤ gb118));clear HB;have HB:=n0_;have BK118:=n1_;have GW118:=n2_;have GE118:=n3_;clear n0_ n1_ n2_ n3_;clear hb hbox hg;have hcz10_0 : w9.cell? ⟨gb118,0,none⟩ = some (.int .i64 a0_0):=(blk_cell BK118.out 0).trans rfl;have hcz10_1 : w9.cell? ⟨gb118,1,none⟩ = some (.bool a0_1):=(blk_cell BK118.out 1).trans rfl;have hcz10_2 : w9.cell? ⟨gb118,2,none⟩ = some (.bool a0_2):=(blk_cell BK118.out 2).trans rfl;have hfz10_0:=blk_frozen BK118.out 0;have hfz10_1:=blk_frozen BK118.out 1;have hfz10_2:=blk_frozen BK118.out 2)|((with_reducible refine gate_callee (f:=30) rfl ?_);refine goesL_ (some 5) rfl rfl Try.func30 (by kernel_rfl) rfl #[.int .i64 a0_0] rfl (by (try simp only [List.map_toArray,List.map_cons,List.map_nil]);first|done|rfl|(simp only [List.length_drop,List.length_take];rfl)) ?_;(with_reducible refine (leadlag_instant.calls a0_0 false _ A2.out).mono ?_);rintro e w' ⟨rfl,⟨nd,rfl⟩⟩;refine ⟨_,rfl,?_⟩))
  go_ret
  exact ⟨by first|rfl|(simp [errW_none,errW_some] <;> rfl)|(simp [*,errW_none,errW_some] <;> rfl),by repeat (first|(with_reducible first|exact HB.out|apply below_alloc|apply pw_below_drewN|apply below_drew1|refine below_set ?_ GE118.out)|exact HB.out)⟩


 subst c3
 have H1 : (if a0_1 = true then (some a0_2) else (some false)) = some r:=by rw [if_pos rfl] at H;exact H
 clear H
 have H:=H1
 clear H1
 by_cases c4 : a0_1 = true
 ·subst c4
  have H1 : (some a0_2) = some r:=by rw [if_pos rfl] at H;exact H
  clear H
  have H:=H1
  clear H1
  obtain rfl:=Option.some.inj H
  go_enter Try.func33,Try.ntmps33
  go_wp2_with (first|((with_reducible refine gate_dst (N:=1) rfl ?_);refine box_event ?hg (N:=1) ?hd (cs:=#[.int .i64 a0_0,.bool true,.bool a0_2]) (t:=62) ?hr ?_;(case hd => rfl);(case hg => rfl);(case hr => first|(go_simp;done)|(go_simp;rfl));intro gb118 hg w5 hbox hb;have n0_:=Aside0.mk (below_step (by repeat (first|(with_reducible first|exact HB.out|apply below_alloc|apply pw_below_drewN|apply below_drew1)|exact HB.out)) hb);have n1_:=Aside0.mk (hbox);have n2_:=Aside0.mk ((by rw [hg];exact (below_size (by repeat (first|(with_reducible first|exact HB.out|apply below_alloc|apply pw_below_drewN|apply below_drew1)|exact HB.out))) : w.heap.size ≤ gb118));have n3_:=Aside0.mk ((by rw [hg];exact (below_size (by repeat (first|(with_reducible first|exact HB.out|apply below_alloc|apply pw_below_drewN|apply below_drew1)|exact HB.out))) : w.heap.size ≤ gb118));clear HB;have HB:=n0_;have BK118:=n1_;have GW118:=n2_;have GE118:=n3_;clear n0_ n1_ n2_ n3_;clear hb hbox hg;have hcz6_0 : w5.cell? ⟨gb118,0,none⟩ = some (.int .i64 a0_0):=(blk_cell BK118.out 0).trans rfl;have hcz6_1 : w5.cell? ⟨gb118,1,none⟩ = some (.bool true):=(blk_cell BK118.out 1).trans rfl;have hcz6_2 : w5.cell? ⟨gb118,2,none⟩ = some (.bool a0_2):=(blk_cell BK118.out 2).trans rfl;have hfz6_0:=blk_frozen BK118.out 0;have hfz6_1:=blk_frozen BK118.out 1;have hfz6_2:=blk_frozen BK118.out 2)|((with_reducible refine gate_callee (f:=30) rfl ?_);refine goesL_ (some 5) rfl rfl Try.func30 (by kernel_rfl) rfl #[.int .i64 a0_0] rfl (by (try simp only [List.map_toArray,List.map_cons,List.map_nil]);first|done|rfl|(simp only [List.length_drop,List.length_take];rfl)) ?_;(with_reducible refine (leadlag_instant.calls a0_0 true _ A2.out).mono ?_);rintro e w' ⟨rfl,⟨nd,rfl⟩⟩;refine ⟨_,rfl,?_⟩))
  go_ret
  exact ⟨by first|rfl|(simp [errW_none,errW_some] <;> rfl)|(simp [*,errW_none,errW_some] <;> rfl),by repeat (first|(with_reducible first|exact HB.out|apply below_alloc|apply pw_below_drewN|apply below_drew1|refine below_set ?_ GE118.out)|exact HB.out)⟩
 replace c4:=Bool.eq_false_iff.mpr c4
 subst c4
 have H1 : (some false) = some r:=by rw [if_neg (show ¬ (false = true) by decide)] at H;exact H
 clear H
 have H:=H1
 clear H1
 obtain rfl:=Option.some.inj H
 go_enter Try.func33,Try.ntmps33
 go_wp2_with (first|((with_reducible refine gate_dst (N:=1) rfl ?_);refine box_event ?hg (N:=1) ?hd (cs:=#[.int .i64 a0_0,.bool false,.bool a0_2]) (t:=62) ?hr ?_;(case hd => rfl);(case hg => rfl);(case hr => first|(go_simp;done)|(go_simp;rfl));intro gb118 hg w7 hbox hb;have n0_:=Aside0.mk (below_step (by repeat (first|(with_reducible first|exact HB.out|apply below_alloc|apply pw_below_drewN|apply below_drew1)|exact HB.out)) hb);have n1_:=Aside0.mk (hbox);have n2_:=Aside0.mk ((by rw [hg];exact (below_size (by repeat (first|(with_reducible first|exact HB.out|apply below_alloc|apply pw_below_drewN|apply below_drew1)|exact HB.out))) : w.heap.size ≤ gb118));have n3_:=Aside0.mk ((by rw [hg];exact (below_size (by repeat (first|(with_reducible first|exact HB.out|apply below_alloc|apply pw_below_drewN|apply below_drew1)|exact HB.out))) : w.heap.size ≤ gb118));clear HB;have HB:=n0_;have BK118:=n1_;have GW118:=n2_;have GE118:=n3_;clear n0_ n1_ n2_ n3_;clear hb hbox hg;have hcz8_0 : w7.cell? ⟨gb118,0,none⟩ = some (.int .i64 a0_0):=(blk_cell BK118.out 0).trans rfl;have hcz8_1 : w7.cell? ⟨gb118,1,none⟩ = some (.bool false):=(blk_cell BK118.out 1).trans rfl;have hcz8_2 : w7.cell? ⟨gb118,2,none⟩ = some (.bool a0_2):=(blk_cell BK118.out 2).trans rfl;have hfz8_0:=blk_frozen BK118.out 0;have hfz8_1:=blk_frozen BK118.out 1;have hfz8_2:=blk_frozen BK118.out 2)|((with_reducible refine gate_callee (f:=30) rfl ?_);refine goesL_ (some 5) rfl rfl Try.func30 (by kernel_rfl) rfl #[.int .i64 a0_0] rfl (by (try simp only [List.map_toArray,List.map_cons,List.map_nil]);first|done|rfl|(simp only [List.length_drop,List.length_take];rfl)) ?_;(with_reducible refine (leadlag_instant.calls a0_0 true _ A2.out).mono ?_);rintro e w' ⟨rfl,⟨nd,rfl⟩⟩;refine ⟨_,rfl,?_⟩))
 go_ret
 exact ⟨by first|rfl|(simp [errW_none,errW_some] <;> rfl)|(simp [*,errW_none,errW_some] <;> rfl),by repeat (first|(with_reducible first|exact HB.out|apply below_alloc|apply pw_below_drewN|apply below_drew1|refine below_set ?_ GE118.out)|exact HB.out)⟩
/-! ### leadlag_someBad: function 71 -/
def leadlag_someBad.f (k : Nat) (l0 : List (S62)) : Option Bool:=leadlag_Unit_34.f leadlag_Check_1.f k l0
theorem leadlag_someBad.mono : ∀ a0 k,LeO (leadlag_someBad.f k a0) (leadlag_someBad.f (k + 1) a0):=leadlag_Unit_34.mono leadlag_Check_1.f
theorem leadlag_someBad.calls (k : Nat) (A0 : Option Addr) (c0 : Nat) (l0 : List (S62)) (r : Bool) (w : World) (hr0 : Kd.C k62 w A0 l0.length l0) (hc0 : l0.length ≤ c0) (h : leadlag_someBad.f k l0 = some r) :
  Calls Try.prog 34 #[.slice A0 l0.length c0,.func (.func 33) #[] #[]] w fun e w' => e = .returned (.bool r)∧Below w.heap.size w w' :=
 leadlag_Unit_34.calls leadlag_Check_1.f 33 Try.f33 #[] Try.func33 (by kernel_rfl) rfl k A0 c0 l0 r w (fun W_ _ x y z v hv => by rw [Array.append_empty];exact leadlag_Check_1.calls x y z v W_ hv) hr0 hc0 h

/-! ### leadlag_Check: function 14 -/
def leadlag_Check.j0 : Nat→Bool→List (S62)→Int→Int→Option (Int)
 | 0,_,_,_,_ => none
 | k + 1,x23,x122000,x122001,x122002 => if x23 = true then (some 6) else (if (x122000.length : Int) < 1 then (some 1) else (if (x122000.length : Int) > 16 then (some 1) else ((leadlag_someBad.f k x122000).bind fun t122 => (if t122 = true then (some 1) else (if x122001 < (-1) then (some 1) else (if x122001 > 6311433599 then (some 1) else ((leadlag_instant.f x122002).bind fun t123 => (if t123 = true then (some 0) else (some 1)))))))))
def leadlag_Check.f (k : Nat) (a0_0 : Int) (a0_1 : Int) (l1_0 : List (S62)) (a1_1 : Int) (a1_2 : Int) : Option (Int):=if a0_0 < 1 then (leadlag_Check.j0 k true l1_0 a1_1 a1_2) else (if a0_0 > 2678400 then (leadlag_Check.j0 k true l1_0 a1_1 a1_2) else (if a0_1 < 0 then (leadlag_Check.j0 k true l1_0 a1_1 a1_2) else (leadlag_Check.j0 k (decide (a0_1 > 3600)) l1_0 a1_1 a1_2)))
theorem leadlag_Check.mono_l : ∀ k,(∀ y0 y1 y2 y3,LeO (leadlag_Check.j0 k y0 y1 y2 y3) (leadlag_Check.j0 (k + 1) y0 y1 y2 y3))
 | 0 => fun _ _ _ _ r h => by simp [leadlag_Check.j0] at h
 | k + 1 => by
  have ih0:=leadlag_Check.mono_l k
  ·intro y0 y1 y2 y3
   unfold leadlag_Check.j0
   repeat' first
   | (with_reducible exact ih0 _ _ _ _)
   | (with_reducible exact leadlag_someBad.mono _ _)
   | (with_reducible exact LeO.refl _)
   | (with_reducible exact LeO.none _)
   | (with_reducible refine LeO.ite ?_ ?_)
   | (with_reducible refine LeO.bind ?_ (fun _ => ?_))
   | exact ih0 _ _ _ _
   | exact leadlag_someBad.mono _ _
   | exact LeO.none _
   | refine LeO.ite ?_ ?_
   | refine LeO.bind ?_ (fun _ => ?_)
theorem leadlag_Check.mono : ∀ a0 a1 a2 a3 a4 k,LeO (leadlag_Check.f k a0 a1 a2 a3 a4) (leadlag_Check.f (k + 1) a0 a1 a2 a3 a4):=by
 intro a0 a1 a2 a3 a4 k
 have ih0:=leadlag_Check.mono_l k
 unfold leadlag_Check.f
 repeat' first
   | (with_reducible exact ih0 _ _ _ _)
   | (with_reducible exact leadlag_someBad.mono _ _)
   | (with_reducible exact LeO.refl _)
   | (with_reducible exact LeO.none _)
   | (with_reducible refine LeO.ite ?_ ?_)
   | (with_reducible refine LeO.bind ?_ (fun _ => ?_))
   | exact ih0 _ _ _ _
   | exact leadlag_someBad.mono _ _
   | exact LeO.none _
   | refine LeO.ite ?_ ?_
   | refine LeO.bind ?_ (fun _ => ?_)
set_option maxHeartbeats 8000000 in
set_option maxRecDepth 100000 in
theorem leadlag_Check.calls (k : Nat) (a0_0 : Int) (a0_1 : Int) (A1_0 : Option Addr) (c1_0 : Nat) (l1_0 : List (S62)) (a1_1 : Int) (a1_2 : Int) (r : Int) (w : World) (hr1_0 : Kd.C k62 w A1_0 l1_0.length l1_0) (hc1_0 : l1_0.length ≤ c1_0) (h : leadlag_Check.f k a0_0 a0_1 l1_0 a1_1 a1_2 = some r) :
  Calls Try.prog 14 #[.agg #[.int .i64 a0_0,.int .i64 a0_1],.agg #[.slice A1_0 l1_0.length c1_0,.int .i64 a1_1,.int .i64 a1_2]] w fun e w' => e = .returned (.int .i64 r)∧Below w.heap.size w w':=by
 have hu43:=Try.underlying43
 have hu32:=Try.underlying32
 have HR1_0:=Aside0.mk hr1_0
 have HC1_0:=Aside0.mk hc1_0
 clear hr1_0 hc1_0
 have HB:=Aside0.mk (Below.refl w.heap.size w)
 have H : (if a0_0 < 1 then (leadlag_Check.j0 k true l1_0 a1_1 a1_2) else (if a0_0 > 2678400 then (leadlag_Check.j0 k true l1_0 a1_1 a1_2) else (if a0_1 < 0 then (leadlag_Check.j0 k true l1_0 a1_1 a1_2) else (leadlag_Check.j0 k (decide (a0_1 > 3600)) l1_0 a1_1 a1_2)))) = some r:=h
 clear h
 have HC3:=Aside0.mk H
 clear H
 go_enter Try.func14,Try.ntmps14
 go_upto_region 1 with (first|((with_reducible refine gate_dst (N:=2) rfl ?_);refine box_event ?hg (N:=2) ?hd (cs:=#[.int .i64 a0_0,.int .i64 a0_1]) (t:=43) ?hr ?_;(case hd => rfl);(case hg => rfl);(case hr => first|(go_simp;done)|(go_simp;rfl));intro gb120 hg w4 hbox hb;have n0_:=Aside0.mk (below_step (by repeat (first|(with_reducible first|exact HB.out|apply below_alloc|apply pw_below_drewN|apply below_drew1)|exact HB.out)) hb);have n1_:=Aside0.mk (hbox);have n2_:=Aside0.mk ((by rw [hg];exact (below_size (by repeat (first|(with_reducible first|exact HB.out|apply below_alloc|apply pw_below_drewN|apply below_drew1)|exact HB.out))) : w.heap.size ≤ gb120));have n3_:=Aside0.mk ((by rw [hg];exact (below_size (by repeat (first|(with_reducible first|exact HB.out|apply below_alloc|apply pw_below_drewN|apply below_drew1)|exact HB.out))) : w.heap.size ≤ gb120));clear HB;have HB:=n0_;have BK120:=n1_;have GW120:=n2_;have GE120:=n3_;clear n0_ n1_ n2_ n3_;clear hb hbox hg)|((with_reducible refine gate_dst (N:=3) rfl ?_);refine box_event ?hg (N:=3) ?hd (cs:=#[.slice A1_0 l1_0.length c1_0,.int .i64 a1_1,.int .i64 a1_2]) (t:=32) ?hr ?_;(case hd => rfl);(case hg => rfl);(case hr => first|(go_simp;done)|(go_simp;rfl));intro gb121 hg w5 hbox hb;have n0_:=Aside0.mk (blk_below (g:=gb120) (o:=.cells #[.int .i64 a0_0,.int .i64 a0_1] 43 (0,0)) (by (with_reducible repeat (first|refine blk_drewN ?_ _|refine blk_drew ?_|refine blk_alloc ?_ _));exact BK120.out) hb);have n1_:=Aside0.mk (below_step (by repeat (first|(with_reducible first|exact HB.out|apply below_alloc|apply pw_below_drewN|apply below_drew1|refine below_set ?_ GE120.out)|exact HB.out)) hb);have n2_:=Aside0.mk (hbox);have n3_:=Aside0.mk ((by rw [hg];exact (below_size (by repeat (first|(with_reducible first|exact HB.out|apply below_alloc|apply pw_below_drewN|apply below_drew1|refine below_set ?_ GE120.out)|exact HB.out))) : w.heap.size ≤ gb121));have n4_:=Aside0.mk ((by rw [hg];exact (below_size (by repeat (first|(with_reducible first|exact HB.out|apply below_alloc|apply pw_below_drewN|apply below_drew1|refine below_set ?_ GE120.out)|exact HB.out))) : w.heap.size ≤ gb121));have n5_:=Aside0.mk ((by rw [hg];exact Nat.ne_of_lt (blk_lt (g:=gb120) (o:=.cells #[.int .i64 a0_0,.int .i64 a0_1] 43 (0,0)) (by (with_reducible repeat (first|refine blk_drewN ?_ _|refine blk_drew ?_|refine blk_alloc ?_ _));exact BK120.out)) : gb120 ≠ gb121));have n6_:=Aside0.mk ((by rw [hg];exact Nat.ne_of_gt (blk_lt (g:=gb120) (o:=.cells #[.int .i64 a0_0,.int .i64 a0_1] 43 (0,0)) (by (with_reducible repeat (first|refine blk_drewN ?_ _|refine blk_drew ?_|refine blk_alloc ?_ _));exact BK120.out)) : gb121 ≠ gb120));clear BK120;clear HB;have BK120:=n0_;have HB:=n1_;have BK121:=n2_;have GW121:=n3_;have GE121:=n4_;have NB120_121:=n5_;have NB121_120:=n6_;clear n0_ n1_ n2_ n3_ n4_ n5_ n6_;clear hb hbox hg))
 (try simp only [Act.put,List.setIfInBounds_toArray,List.set_cons_zero,List.set_cons_succ])
 go_cut [23] (fun v23 wc => ∃ (kq : Nat) (x23_2 : Bool),v23 = .bool x23_2∧Aside0 (leadlag_Check.j0 kq x23_2 l1_0 a1_1 a1_2 = some r)∧Aside0 (kq ≤ k)∧Aside0 (wc.heap[gb120]? = some (.cells #[.int .i64 a0_0,.int .i64 a0_1] 43 (0,0)))∧Aside0 (wc.heap[gb121]? = some (.cells #[(.slice A1_0 l1_0.length c1_0),.int .i64 a1_1,.int .i64 a1_2] 32 (0,0)))∧Aside0 (Below w.heap.size w wc))
 case first =>
  have H:=HC3.out
  clear HC3
  by_cases c6 : a0_0 < 1
  ·rw [if_pos c6] at H
   have c6b0 : decide (a0_0 < 1) = true:=decide_eq_true c6
   clear c6
   (first|rw [c6b0]|(simp only [i64_w,i32_w];rw [c6b0])|skip)
   have H':=Aside0.mk H
   clear H
   have hnb7:=NB120_121.out
   have hnc7:=NB121_120.out
   have hcz8_0 : w5.cell? ⟨gb120,0,none⟩ = some (.int .i64 a0_0):=(blk_cell BK120.out 0).trans rfl
   have hcz8_1 : w5.cell? ⟨gb120,1,none⟩ = some (.int .i64 a0_1):=(blk_cell BK120.out 1).trans rfl
   have hfz8_0:=blk_frozen BK120.out 0
   have hfz8_1:=blk_frozen BK120.out 1
   go_wp2
   go_meet
   case rel => exact ⟨_,(true),(by first|rfl|(simp;done)|(simp [*];done)),H',⟨by first|omega|exact Nat.le_refl _⟩,⟨by (with_reducible repeat (first|refine blk_drewN ?_ _|refine blk_drew ?_|refine blk_alloc ?_ _));exact BK120.out⟩,⟨by (with_reducible repeat (first|refine blk_drewN ?_ _|refine blk_drew ?_|refine blk_alloc ?_ _));exact BK121.out⟩,⟨by repeat (first|(with_reducible first|exact HB.out|apply below_alloc|apply pw_below_drewN|apply below_drew1|refine below_set ?_ GE120.out|refine below_set ?_ GE121.out)|exact HB.out)⟩⟩
  rw [if_neg c6] at H
  have c6b0 : decide (a0_0 < 1) = false:=decide_eq_false c6
  clear c6
  (first|rw [c6b0]|(simp only [i64_w,i32_w];rw [c6b0])|skip)
  by_cases c9 : a0_0 > 2678400
  ·rw [if_pos c9] at H
   have c9b0 : decide (2678400 < a0_0) = true:=decide_eq_true c9
   clear c9
   have H':=Aside0.mk H
   clear H
   have hnb10:=NB120_121.out
   have hnc10:=NB121_120.out
   have hcz11_0 : w5.cell? ⟨gb120,0,none⟩ = some (.int .i64 a0_0):=(blk_cell BK120.out 0).trans rfl
   have hcz11_1 : w5.cell? ⟨gb120,1,none⟩ = some (.int .i64 a0_1):=(blk_cell BK120.out 1).trans rfl
   have hfz11_0:=blk_frozen BK120.out 0
   have hfz11_1:=blk_frozen BK120.out 1
   go_wp2
   go_meet
   case rel => exact ⟨_,(true),(by first|rfl|(simp;done)|(simp [*];done)),H',⟨by first|omega|exact Nat.le_refl _⟩,⟨by (with_reducible repeat (first|refine blk_drewN ?_ _|refine blk_drew ?_|refine blk_alloc ?_ _));exact BK120.out⟩,⟨by (with_reducible repeat (first|refine blk_drewN ?_ _|refine blk_drew ?_|refine blk_alloc ?_ _));exact BK121.out⟩,⟨by repeat (first|(with_reducible first|exact HB.out|apply below_alloc|apply pw_below_drewN|apply below_drew1|refine below_set ?_ GE120.out|refine below_set ?_ GE121.out)|exact HB.out)⟩⟩
  rw [if_neg c9] at H
  have c9b0 : decide (2678400 < a0_0) = false:=decide_eq_false c9
  clear c9
  by_cases c12 : a0_1 < 0
  ·rw [if_pos c12] at H
   have c12b0 : decide (a0_1 < 0) = true:=decide_eq_true c12
   clear c12
   have H':=Aside0.mk H
   clear H
   have hnb13:=NB120_121.out
   have hnc13:=NB121_120.out
   have hcz14_0 : w5.cell? ⟨gb120,0,none⟩ = some (.int .i64 a0_0):=(blk_cell BK120.out 0).trans rfl
   have hcz14_1 : w5.cell? ⟨gb120,1,none⟩ = some (.int .i64 a0_1):=(blk_cell BK120.out 1).trans rfl
   have hfz14_0:=blk_frozen BK120.out 0
   have hfz14_1:=blk_frozen BK120.out 1
   go_wp2
   go_meet
   case rel => exact ⟨_,(true),(by first|rfl|(simp;done)|(simp [*];done)),H',⟨by first|omega|exact Nat.le_refl _⟩,⟨by (with_reducible repeat (first|refine blk_drewN ?_ _|refine blk_drew ?_|refine blk_alloc ?_ _));exact BK120.out⟩,⟨by (with_reducible repeat (first|refine blk_drewN ?_ _|refine blk_drew ?_|refine blk_alloc ?_ _));exact BK121.out⟩,⟨by repeat (first|(with_reducible first|exact HB.out|apply below_alloc|apply pw_below_drewN|apply below_drew1|refine below_set ?_ GE120.out|refine below_set ?_ GE121.out)|exact HB.out)⟩⟩
  rw [if_neg c12] at H
  have c12b0 : decide (a0_1 < 0) = false:=decide_eq_false c12
  clear c12
  have H':=Aside0.mk H
  clear H
  have hnb15:=NB120_121.out
  have hnc15:=NB121_120.out
  have hcz16_0 : w5.cell? ⟨gb120,0,none⟩ = some (.int .i64 a0_0):=(blk_cell BK120.out 0).trans rfl
  have hcz16_1 : w5.cell? ⟨gb120,1,none⟩ = some (.int .i64 a0_1):=(blk_cell BK120.out 1).trans rfl
  have hfz16_0:=blk_frozen BK120.out 0
  have hfz16_1:=blk_frozen BK120.out 1
  go_wp2
  go_meet
  case rel => exact ⟨_,(decide (a0_1 > 3600)),(by first|rfl|(simp;done)|(simp [*];done)),H',⟨by first|omega|exact Nat.le_refl _⟩,⟨by (with_reducible repeat (first|refine blk_drewN ?_ _|refine blk_drew ?_|refine blk_alloc ?_ _));exact BK120.out⟩,⟨by (with_reducible repeat (first|refine blk_drewN ?_ _|refine blk_drew ?_|refine blk_alloc ?_ _));exact BK121.out⟩,⟨by repeat (first|(with_reducible first|exact HB.out|apply below_alloc|apply pw_below_drewN|apply below_drew1|refine below_set ?_ GE120.out|refine below_set ?_ GE121.out)|exact HB.out)⟩⟩
 case rest =>
  clear HC3
  (try clear c1);(try clear p2);(try clear c6);(try clear c6b0);(try clear c7);(try clear c9);(try clear c9b0);(try clear c10);(try clear c12);(try clear c12b0);(try clear c13);(try clear c14);(try clear c15);(try clear hcz11_0);(try clear hcz11_1);(try clear hcz14_0);(try clear hcz14_1);(try clear hcz16_0);(try clear hcz16_1);(try clear hcz8_0);(try clear hcz8_1);(try clear hfz11_0);(try clear hfz11_1);(try clear hfz14_0);(try clear hfz14_1);(try clear hfz16_0);(try clear hfz16_1);(try clear hfz8_0);(try clear hfz8_1)
  obtain ⟨kq,x23_2,rfl,HA,HJ2,BK120,BK121,HB⟩:=hcut
  cases kq with
  | zero => exact absurd HA.out (by simp [leadlag_Check.j0])
  | succ kj2 =>
   have H:=HA.out
   clear HA
   simp only [leadlag_Check.j0] at H
   by_cases c17 : x23_2 = true
   ·subst c17
    have H1 : (some 6) = some r:=by rw [if_pos rfl] at H;exact H
    clear H
    have H:=H1
    clear H1
    obtain rfl:=Option.some.inj H
    go_wp2
    go_ret
    exact ⟨by first|rfl|(simp [errW_none,errW_some] <;> rfl)|(simp [*,errW_none,errW_some] <;> rfl),by repeat (first|(with_reducible first|exact HB.out|apply below_alloc|apply pw_below_drewN|apply below_drew1|refine below_set ?_ GE120.out|refine below_set ?_ GE121.out)|exact HB.out)⟩
   replace c17:=Bool.eq_false_iff.mpr c17
   subst c17
   have H1 : (if (l1_0.length : Int) < 1 then (some 1) else (if (l1_0.length : Int) > 16 then (some 1) else ((leadlag_someBad.f kj2 l1_0).bind fun t122 => (if t122 = true then (some 1) else (if a1_1 < (-1) then (some 1) else (if a1_1 > 6311433599 then (some 1) else ((leadlag_instant.f a1_2).bind fun t123 => (if t123 = true then (some 0) else (some 1))))))))) = some r:=by rw [if_neg (show ¬ (false = true) by decide)] at H;exact H
   clear H
   have H:=H1
   clear H1
   by_cases c18 : (l1_0.length : Int) < 1
   ·rw [if_pos c18] at H
    have c18b0 : decide ((l1_0.length : Int) < 1) = true:=decide_eq_true c18
    have c18b1 : decide (l1_0.length < 1) = true:=decide_eq_true (by omega)
    clear c18
    obtain rfl:=Option.some.inj H
    have hnb19:=NB121_120.out
    have hnc19:=NB120_121.out
    have hcz20_0 : wc.cell? ⟨gb121,0,none⟩ = some (.slice A1_0 l1_0.length c1_0):=(blk_cell BK121.out 0).trans rfl
    have hcz20_1 : wc.cell? ⟨gb121,1,none⟩ = some (.int .i64 a1_1):=(blk_cell BK121.out 1).trans rfl
    have hcz20_2 : wc.cell? ⟨gb121,2,none⟩ = some (.int .i64 a1_2):=(blk_cell BK121.out 2).trans rfl
    have hfz20_0:=blk_frozen BK121.out 0
    have hfz20_1:=blk_frozen BK121.out 1
    have hfz20_2:=blk_frozen BK121.out 2
    go_wp2
    go_ret
    exact ⟨by first|rfl|(simp [errW_none,errW_some] <;> rfl)|(simp [*,errW_none,errW_some] <;> rfl),by repeat (first|(with_reducible first|exact HB.out|apply below_alloc|apply pw_below_drewN|apply below_drew1|refine below_set ?_ GE120.out|refine below_set ?_ GE121.out)|exact HB.out)⟩
   rw [if_neg c18] at H
   have c18b0 : decide ((l1_0.length : Int) < 1) = false:=decide_eq_false c18
   have c18b1 : decide (l1_0.length < 1) = false:=decide_eq_false (by omega)
   clear c18
   by_cases c21 : (l1_0.length : Int) > 16
   ·rw [if_pos c21] at H
    have c21b0 : decide (16 < (l1_0.length : Int)) = true:=decide_eq_true c21
    have c21b1 : decide (16 < l1_0.length) = true:=decide_eq_true (by omega)
    clear c21
    obtain rfl:=Option.some.inj H
    have hnb22:=NB121_120.out
    have hnc22:=NB120_121.out
    have hcz23_0 : wc.cell? ⟨gb121,0,none⟩ = some (.slice A1_0 l1_0.length c1_0):=(blk_cell BK121.out 0).trans rfl
    have hcz23_1 : wc.cell? ⟨gb121,1,none⟩ = some (.int .i64 a1_1):=(blk_cell BK121.out 1).trans rfl
    have hcz23_2 : wc.cell? ⟨gb121,2,none⟩ = some (.int .i64 a1_2):=(blk_cell BK121.out 2).trans rfl
    have hfz23_0:=blk_frozen BK121.out 0
    have hfz23_1:=blk_frozen BK121.out 1
    have hfz23_2:=blk_frozen BK121.out 2
    go_wp2
    go_ret
    exact ⟨by first|rfl|(simp [errW_none,errW_some] <;> rfl)|(simp [*,errW_none,errW_some] <;> rfl),by repeat (first|(with_reducible first|exact HB.out|apply below_alloc|apply pw_below_drewN|apply below_drew1|refine below_set ?_ GE120.out|refine below_set ?_ GE121.out)|exact HB.out)⟩
   rw [if_neg c21] at H
   have c21b0 : decide (16 < (l1_0.length : Int)) = false:=decide_eq_false c21
   have c21b1 : decide (16 < l1_0.length) = false:=decide_eq_false (by omega)
   clear c21
   replace H:=Option.bind_eq_some_iff.mp H
   obtain ⟨t122,A240,H⟩:=H
   replace H : (if t122 = true then (some 1) else (if a1_1 < (-1) then (some 1) else (if a1_1 > 6311433599 then (some 1) else ((leadlag_instant.f a1_2).bind fun t123 => (if t123 = true then (some 0) else (some 1)))))) = some r:=H
   have A24:=Aside0.mk A240
   clear A240
   by_cases c25 : t122 = true
   ·subst c25
    have H1 : (some 1) = some r:=by rw [if_pos rfl] at H;exact H
    clear H
    have H:=H1
    clear H1
    obtain rfl:=Option.some.inj H
    have hnb26:=NB121_120.out
    have hnc26:=NB120_121.out
    have hcz27_0 : wc.cell? ⟨gb121,0,none⟩ = some (.slice A1_0 l1_0.length c1_0):=(blk_cell BK121.out 0).trans rfl
    have hcz27_1 : wc.cell? ⟨gb121,1,none⟩ = some (.int .i64 a1_1):=(blk_cell BK121.out 1).trans rfl
    have hcz27_2 : wc.cell? ⟨gb121,2,none⟩ = some (.int .i64 a1_2):=(blk_cell BK121.out 2).trans rfl
    have hfz27_0:=blk_frozen BK121.out 0
    have hfz27_1:=blk_frozen BK121.out 1
    have hfz27_2:=blk_frozen BK121.out 2
    go_wp2_with (first|(go_at_call 34;(with_reducible refine (leadlag_someBad.calls kj2 _ _ l1_0 true _ ?side1 ?side2 A24.out).mono ?_);(case side1 => repeat (first|exact (Kd.C_below HR1_0.out HB.out)|(with_reducible refine Kd.C_alloc ?_ _)|(with_reducible refine Kd.C_drewN ?_ _)|(with_reducible refine Kd.C_drew ?_)));(case side2 => exact HC1_0.out);rintro e w28 ⟨rfl,hb⟩;have n0_:=Aside0.mk (blk_below (g:=gb120) (o:=.cells #[.int .i64 a0_0,.int .i64 a0_1] 43 (0,0)) (by (with_reducible repeat (first|refine blk_drewN ?_ _|refine blk_drew ?_|refine blk_alloc ?_ _));exact BK120.out) hb);have n1_:=Aside0.mk (blk_below (g:=gb121) (o:=.cells #[.slice A1_0 l1_0.length c1_0,.int .i64 a1_1,.int .i64 a1_2] 32 (0,0)) (by (with_reducible repeat (first|refine blk_drewN ?_ _|refine blk_drew ?_|refine blk_alloc ?_ _));exact BK121.out) hb);have n2_:=Aside0.mk (below_step (by repeat (first|(with_reducible first|exact HB.out|apply below_alloc|apply pw_below_drewN|apply below_drew1|refine below_set ?_ GE120.out|refine below_set ?_ GE121.out)|exact HB.out)) hb);clear BK120;clear BK121;clear HB;have BK120:=n0_;have BK121:=n1_;have HB:=n2_;clear n0_ n1_ n2_;(try clear hb);(try clear hb2);(try clear hk);(try clear hi)))
    go_ret
    exact ⟨by first|rfl|(simp [errW_none,errW_some] <;> rfl)|(simp [*,errW_none,errW_some] <;> rfl),by repeat (first|(with_reducible first|exact HB.out|apply below_alloc|apply pw_below_drewN|apply below_drew1|refine below_set ?_ GE120.out|refine below_set ?_ GE121.out)|exact HB.out)⟩
   replace c25:=Bool.eq_false_iff.mpr c25
   subst c25
   have H1 : (if a1_1 < (-1) then (some 1) else (if a1_1 > 6311433599 then (some 1) else ((leadlag_instant.f a1_2).bind fun t123 => (if t123 = true then (some 0) else (some 1))))) = some r:=by rw [if_neg (show ¬ (false = true) by decide)] at H;exact H
   clear H
   have H:=H1
   clear H1
   by_cases c29 : a1_1 < (-1)
   ·rw [if_pos c29] at H
    have c29b0 : decide (a1_1 < (-1)) = true:=decide_eq_true c29
    clear c29
    obtain rfl:=Option.some.inj H
    have hnb30:=NB121_120.out
    have hnc30:=NB120_121.out
    have hcz31_0 : wc.cell? ⟨gb121,0,none⟩ = some (.slice A1_0 l1_0.length c1_0):=(blk_cell BK121.out 0).trans rfl
    have hcz31_1 : wc.cell? ⟨gb121,1,none⟩ = some (.int .i64 a1_1):=(blk_cell BK121.out 1).trans rfl
    have hcz31_2 : wc.cell? ⟨gb121,2,none⟩ = some (.int .i64 a1_2):=(blk_cell BK121.out 2).trans rfl
    have hfz31_0:=blk_frozen BK121.out 0
    have hfz31_1:=blk_frozen BK121.out 1
    have hfz31_2:=blk_frozen BK121.out 2
    go_wp2_with (first|(go_at_call 34;(with_reducible refine (leadlag_someBad.calls kj2 _ _ l1_0 false _ ?side1 ?side2 A24.out).mono ?_);(case side1 => repeat (first|exact (Kd.C_below HR1_0.out HB.out)|(with_reducible refine Kd.C_alloc ?_ _)|(with_reducible refine Kd.C_drewN ?_ _)|(with_reducible refine Kd.C_drew ?_)));(case side2 => exact HC1_0.out);rintro e w32 ⟨rfl,hb⟩;have n0_:=Aside0.mk (blk_below (g:=gb120) (o:=.cells #[.int .i64 a0_0,.int .i64 a0_1] 43 (0,0)) (by (with_reducible repeat (first|refine blk_drewN ?_ _|refine blk_drew ?_|refine blk_alloc ?_ _));exact BK120.out) hb);have n1_:=Aside0.mk (blk_below (g:=gb121) (o:=.cells #[.slice A1_0 l1_0.length c1_0,.int .i64 a1_1,.int .i64 a1_2] 32 (0,0)) (by (with_reducible repeat (first|refine blk_drewN ?_ _|refine blk_drew ?_|refine blk_alloc ?_ _));exact BK121.out) hb);have n2_:=Aside0.mk (below_step (by repeat (first|(with_reducible first|exact HB.out|apply below_alloc|apply pw_below_drewN|apply below_drew1|refine below_set ?_ GE120.out|refine below_set ?_ GE121.out)|exact HB.out)) hb);clear BK120;clear BK121;clear HB;have BK120:=n0_;have BK121:=n1_;have HB:=n2_;clear n0_ n1_ n2_;(try clear hb);(try clear hb2);(try clear hk);(try clear hi);have hcz33_0 : w32.cell? ⟨gb121,0,none⟩ = some (.slice A1_0 l1_0.length c1_0):=(blk_cell BK121.out 0).trans rfl;have hcz33_1 : w32.cell? ⟨gb121,1,none⟩ = some (.int .i64 a1_1):=(blk_cell BK121.out 1).trans rfl;have hcz33_2 : w32.cell? ⟨gb121,2,none⟩ = some (.int .i64 a1_2):=(blk_cell BK121.out 2).trans rfl;have hfz33_0:=blk_frozen BK121.out 0;have hfz33_1:=blk_frozen BK121.out 1;have hfz33_2:=blk_frozen BK121.out 2))
    go_ret
    exact ⟨by first|rfl|(simp [errW_none,errW_some] <;> rfl)|(simp [*,errW_none,errW_some] <;> rfl),by repeat (first|(with_reducible first|exact HB.out|apply below_alloc|apply pw_below_drewN|apply below_drew1|refine below_set ?_ GE120.out|refine below_set ?_ GE121.out)|exact HB.out)⟩
   rw [if_neg c29] at H
   have c29b0 : decide (a1_1 < (-1)) = false:=decide_eq_false c29
   clear c29
   by_cases c34 : a1_1 > 6311433599
   ·rw [if_pos c34] at H
    have c34b0 : decide (6311433599 < a1_1) = true:=decide_eq_true c34
    clear c34
    obtain rfl:=Option.some.inj H
    have hnb35:=NB121_120.out
    have hnc35:=NB120_121.out
    have hcz36_0 : wc.cell? ⟨gb121,0,none⟩ = some (.slice A1_0 l1_0.length c1_0):=(blk_cell BK121.out 0).trans rfl
    have hcz36_1 : wc.cell? ⟨gb121,1,none⟩ = some (.int .i64 a1_1):=(blk_cell BK121.out 1).trans rfl
    have hcz36_2 : wc.cell? ⟨gb121,2,none⟩ = some (.int .i64 a1_2):=(blk_cell BK121.out 2).trans rfl
    have hfz36_0:=blk_frozen BK121.out 0
    have hfz36_1:=blk_frozen BK121.out 1
    have hfz36_2:=blk_frozen BK121.out 2
    go_wp2_with (first|(go_at_call 34;(with_reducible refine (leadlag_someBad.calls kj2 _ _ l1_0 false _ ?side1 ?side2 A24.out).mono ?_);(case side1 => repeat (first|exact (Kd.C_below HR1_0.out HB.out)|(with_reducible refine Kd.C_alloc ?_ _)|(with_reducible refine Kd.C_drewN ?_ _)|(with_reducible refine Kd.C_drew ?_)));(case side2 => exact HC1_0.out);rintro e w37 ⟨rfl,hb⟩;have n0_:=Aside0.mk (blk_below (g:=gb120) (o:=.cells #[.int .i64 a0_0,.int .i64 a0_1] 43 (0,0)) (by (with_reducible repeat (first|refine blk_drewN ?_ _|refine blk_drew ?_|refine blk_alloc ?_ _));exact BK120.out) hb);have n1_:=Aside0.mk (blk_below (g:=gb121) (o:=.cells #[.slice A1_0 l1_0.length c1_0,.int .i64 a1_1,.int .i64 a1_2] 32 (0,0)) (by (with_reducible repeat (first|refine blk_drewN ?_ _|refine blk_drew ?_|refine blk_alloc ?_ _));exact BK121.out) hb);have n2_:=Aside0.mk (below_step (by repeat (first|(with_reducible first|exact HB.out|apply below_alloc|apply pw_below_drewN|apply below_drew1|refine below_set ?_ GE120.out|refine below_set ?_ GE121.out)|exact HB.out)) hb);clear BK120;clear BK121;clear HB;have BK120:=n0_;have BK121:=n1_;have HB:=n2_;clear n0_ n1_ n2_;(try clear hb);(try clear hb2);(try clear hk);(try clear hi);have hcz38_0 : w37.cell? ⟨gb121,0,none⟩ = some (.slice A1_0 l1_0.length c1_0):=(blk_cell BK121.out 0).trans rfl;have hcz38_1 : w37.cell? ⟨gb121,1,none⟩ = some (.int .i64 a1_1):=(blk_cell BK121.out 1).trans rfl;have hcz38_2 : w37.cell? ⟨gb121,2,none⟩ = some (.int .i64 a1_2):=(blk_cell BK121.out 2).trans rfl;have hfz38_0:=blk_frozen BK121.out 0;have hfz38_1:=blk_frozen BK121.out 1;have hfz38_2:=blk_frozen BK121.out 2))
    go_ret
    exact ⟨by first|rfl|(simp [errW_none,errW_some] <;> rfl)|(simp [*,errW_none,errW_some] <;> rfl),by repeat (first|(with_reducible first|exact HB.out|apply below_alloc|apply pw_below_drewN|apply below_drew1|refine below_set ?_ GE120.out|refine below_set ?_ GE121.out)|exact HB.out)⟩
   rw [if_neg c34] at H
   have c34b0 : decide (6311433599 < a1_1) = false:=decide_eq_false c34
   clear c34
   replace H:=Option.bind_eq_some_iff.mp H
   obtain ⟨t123,A390,H⟩:=H
   replace H : (if t123 = true then (some 0) else (some 1)) = some r:=H
   have A39:=Aside0.mk A390
   clear A390
   by_cases c40 : t123 = true
   ·subst c40
    have H1 : (some 0) = some r:=by rw [if_pos rfl] at H;exact H
    clear H
    have H:=H1
    clear H1
    obtain rfl:=Option.some.inj H
    have hnb41:=NB121_120.out
    have hnc41:=NB120_121.out
    have hcz42_0 : wc.cell? ⟨gb121,0,none⟩ = some (.slice A1_0 l1_0.length c1_0):=(blk_cell BK121.out 0).trans rfl
    have hcz42_1 : wc.cell? ⟨gb121,1,none⟩ = some (.int .i64 a1_1):=(blk_cell BK121.out 1).trans rfl
    have hcz42_2 : wc.cell? ⟨gb121,2,none⟩ = some (.int .i64 a1_2):=(blk_cell BK121.out 2).trans rfl
    have hfz42_0:=blk_frozen BK121.out 0
    have hfz42_1:=blk_frozen BK121.out 1
    have hfz42_2:=blk_frozen BK121.out 2
    go_wp2_with (first|(go_at_call 34;(with_reducible refine (leadlag_someBad.calls kj2 _ _ l1_0 false _ ?side1 ?side2 A24.out).mono ?_);(case side1 => repeat (first|exact (Kd.C_below HR1_0.out HB.out)|(with_reducible refine Kd.C_alloc ?_ _)|(with_reducible refine Kd.C_drewN ?_ _)|(with_reducible refine Kd.C_drew ?_)));(case side2 => exact HC1_0.out);rintro e w43 ⟨rfl,hb⟩;have n0_:=Aside0.mk (blk_below (g:=gb120) (o:=.cells #[.int .i64 a0_0,.int .i64 a0_1] 43 (0,0)) (by (with_reducible repeat (first|refine blk_drewN ?_ _|refine blk_drew ?_|refine blk_alloc ?_ _));exact BK120.out) hb);have n1_:=Aside0.mk (blk_below (g:=gb121) (o:=.cells #[.slice A1_0 l1_0.length c1_0,.int .i64 a1_1,.int .i64 a1_2] 32 (0,0)) (by (with_reducible repeat (first|refine blk_drewN ?_ _|refine blk_drew ?_|refine blk_alloc ?_ _));exact BK121.out) hb);have n2_:=Aside0.mk (below_step (by repeat (first|(with_reducible first|exact HB.out|apply below_alloc|apply pw_below_drewN|apply below_drew1|refine below_set ?_ GE120.out|refine below_set ?_ GE121.out)|exact HB.out)) hb);clear BK120;clear BK121;clear HB;have BK120:=n0_;have BK121:=n1_;have HB:=n2_;clear n0_ n1_ n2_;(try clear hb);(try clear hb2);(try clear hk);(try clear hi);have hcz44_0 : w43.cell? ⟨gb121,0,none⟩ = some (.slice A1_0 l1_0.length c1_0):=(blk_cell BK121.out 0).trans rfl;have hcz44_1 : w43.cell? ⟨gb121,1,none⟩ = some (.int .i64 a1_1):=(blk_cell BK121.out 1).trans rfl;have hcz44_2 : w43.cell? ⟨gb121,2,none⟩ = some (.int .i64 a1_2):=(blk_cell BK121.out 2).trans rfl;have hfz44_0:=blk_frozen BK121.out 0;have hfz44_1:=blk_frozen BK121.out 1;have hfz44_2:=blk_frozen BK121.out 2)|(go_at_call 30;(with_reducible refine (leadlag_instant.calls a1_2 true _ A39.out).mono ?_);rintro e w' ⟨rfl,⟨nd,rfl⟩⟩))
    go_ret
    exact ⟨by first|rfl|(simp [errW_none,errW_some] <;> rfl)|(simp [*,errW_none,errW_some] <;> rfl),by repeat (first|(with_reducible first|exact HB.out|apply below_alloc|apply pw_below_drewN|apply below_drew1|refine below_set ?_ GE120.out|refine below_set ?_ GE121.out)|exact HB.out)⟩
   replace c40:=Bool.eq_false_iff.mpr c40
   subst c40
   have H1 : (some 1) = some r:=by rw [if_neg (show ¬ (false = true) by decide)] at H;exact H
   clear H
   have H:=H1
   clear H1
   obtain rfl:=Option.some.inj H
   have hnb45:=NB121_120.out
   have hnc45:=NB120_121.out
   have hcz46_0 : wc.cell? ⟨gb121,0,none⟩ = some (.slice A1_0 l1_0.length c1_0):=(blk_cell BK121.out 0).trans rfl
   have hcz46_1 : wc.cell? ⟨gb121,1,none⟩ = some (.int .i64 a1_1):=(blk_cell BK121.out 1).trans rfl
   have hcz46_2 : wc.cell? ⟨gb121,2,none⟩ = some (.int .i64 a1_2):=(blk_cell BK121.out 2).trans rfl
   have hfz46_0:=blk_frozen BK121.out 0
   have hfz46_1:=blk_frozen BK121.out 1
   have hfz46_2:=blk_frozen BK121.out 2
   go_wp2_with (first|(go_at_call 34;(with_reducible refine (leadlag_someBad.calls kj2 _ _ l1_0 false _ ?side1 ?side2 A24.out).mono ?_);(case side1 => repeat (first|exact (Kd.C_below HR1_0.out HB.out)|(with_reducible refine Kd.C_alloc ?_ _)|(with_reducible refine Kd.C_drewN ?_ _)|(with_reducible refine Kd.C_drew ?_)));(case side2 => exact HC1_0.out);rintro e w47 ⟨rfl,hb⟩;have n0_:=Aside0.mk (blk_below (g:=gb120) (o:=.cells #[.int .i64 a0_0,.int .i64 a0_1] 43 (0,0)) (by (with_reducible repeat (first|refine blk_drewN ?_ _|refine blk_drew ?_|refine blk_alloc ?_ _));exact BK120.out) hb);have n1_:=Aside0.mk (blk_below (g:=gb121) (o:=.cells #[.slice A1_0 l1_0.length c1_0,.int .i64 a1_1,.int .i64 a1_2] 32 (0,0)) (by (with_reducible repeat (first|refine blk_drewN ?_ _|refine blk_drew ?_|refine blk_alloc ?_ _));exact BK121.out) hb);have n2_:=Aside0.mk (below_step (by repeat (first|(with_reducible first|exact HB.out|apply below_alloc|apply pw_below_drewN|apply below_drew1|refine below_set ?_ GE120.out|refine below_set ?_ GE121.out)|exact HB.out)) hb);clear BK120;clear BK121;clear HB;have BK120:=n0_;have BK121:=n1_;have HB:=n2_;clear n0_ n1_ n2_;(try clear hb);(try clear hb2);(try clear hk);(try clear hi);have hcz48_0 : w47.cell? ⟨gb121,0,none⟩ = some (.slice A1_0 l1_0.length c1_0):=(blk_cell BK121.out 0).trans rfl;have hcz48_1 : w47.cell? ⟨gb121,1,none⟩ = some (.int .i64 a1_1):=(blk_cell BK121.out 1).trans rfl;have hcz48_2 : w47.cell? ⟨gb121,2,none⟩ = some (.int .i64 a1_2):=(blk_cell BK121.out 2).trans rfl;have hfz48_0:=blk_frozen BK121.out 0;have hfz48_1:=blk_frozen BK121.out 1;have hfz48_2:=blk_frozen BK121.out 2)|(go_at_call 30;(with_reducible refine (leadlag_instant.calls a1_2 false _ A39.out).mono ?_);rintro e w' ⟨rfl,⟨nd,rfl⟩⟩))
   go_ret
   exact ⟨by first|rfl|(simp [errW_none,errW_some] <;> rfl)|(simp [*,errW_none,errW_some] <;> rfl),by repeat (first|(with_reducible first|exact HB.out|apply below_alloc|apply pw_below_drewN|apply below_drew1|refine below_set ?_ GE120.out|refine below_set ?_ GE121.out)|exact HB.out)⟩


/-! ### slices_insertionSortCmpFunc_int: function 51 -/
-- told with IndexFunc

-- NOT PRINTED: function 54 (slices_swapRangeCmpFunc_int)

-- NOT PRINTED: function 53 (slices_rotateCmpFunc_int)

-- NOT PRINTED: function 52 (slices_symMergeCmpFunc_int)


/-! ### slices_stableCmpFunc_int: function 46 -/
-- told with IndexFunc


/-! ### slices_SortStableFunc_int_int: function 35 -/
-- told with IndexFunc

/-! ### cmp_isNaN_int: function 47 -/
def cmp_isNaN_int.f (a0 : Int) : Option (Bool):=some (a0 != a0)
set_option maxHeartbeats 8000000 in
set_option maxRecDepth 100000 in
theorem cmp_isNaN_int.calls (a0 : Int) (r : Bool) (w : World) (h : cmp_isNaN_int.f a0 = some r) :
  Calls Try.prog 47 #[.int .i64 a0] w fun e w' => e = .returned (.bool r)∧Drawn0 w w':=by
 have H : (some (a0 != a0)) = some r:=h
 clear h
 obtain rfl:=Option.some.inj H
 go_enter Try.func47,Try.ntmps47
 go_wp2
 go_ret
 exact ⟨by first|rfl|(simp;done)|(simp [*];done),by repeat (first|exact Drawn0.refl _|apply Drawn0.step)⟩

/-! ### cmp_Compare_int: function 37 -/
def cmp_Compare_int.f (a0 : Int) (a1 : Int) : Option (Int):=(cmp_isNaN_int.f a0).bind fun t124 => ((cmp_isNaN_int.f a1).bind fun t125 => (if t124 = true then (if t125 = true then (some 0) else (some (-1))) else (if t125 = true then (some 1) else (if a0 < a1 then (some (-1)) else (if a0 > a1 then (some 1) else (some 0))))))
set_option maxHeartbeats 8000000 in
set_option maxRecDepth 100000 in
theorem cmp_Compare_int.calls (a0 : Int) (a1 : Int) (r : Int) (w : World) (h : cmp_Compare_int.f a0 a1 = some r) :
  Calls Try.prog 37 #[.int .i64 a0,.int .i64 a1] w fun e w' => e = .returned (.int .i64 r)∧Drawn0 w w':=by
 have H : ((cmp_isNaN_int.f a0).bind fun t124 => ((cmp_isNaN_int.f a1).bind fun t125 => (if t124 = true then (if t125 = true then (some 0) else (some (-1))) else (if t125 = true then (some 1) else (if a0 < a1 then (some (-1)) else (if a0 > a1 then (some 1) else (some 0))))))) = some r:=h
 clear h
 replace H:=Option.bind_eq_some_iff.mp H
 obtain ⟨t124,A30,H⟩:=H
 replace H : ((cmp_isNaN_int.f a1).bind fun t125 => (if t124 = true then (if t125 = true then (some 0) else (some (-1))) else (if t125 = true then (some 1) else (if a0 < a1 then (some (-1)) else (if a0 > a1 then (some 1) else (some 0)))))) = some r:=H
 have A3:=Aside0.mk A30
 clear A30
 replace H:=Option.bind_eq_some_iff.mp H
 obtain ⟨t125,A40,H⟩:=H
 replace H : (if t124 = true then (if t125 = true then (some 0) else (some (-1))) else (if t125 = true then (some 1) else (if a0 < a1 then (some (-1)) else (if a0 > a1 then (some 1) else (some 0))))) = some r:=H
 have A4:=Aside0.mk A40
 clear A40
 by_cases c5 : t124 = true
 ·subst c5
  have H1 : (if t125 = true then (some 0) else (some (-1))) = some r:=by rw [if_pos rfl] at H;exact H
  clear H
  have H:=H1
  clear H1
  by_cases c6 : t125 = true
  ·subst c6
   have H1 : (some 0) = some r:=by rw [if_pos rfl] at H;exact H
   clear H
   have H:=H1
   clear H1
   obtain rfl:=Option.some.inj H
   go_enter Try.func37,Try.ntmps37
   go_wp2_with (first|((with_reducible refine gate_callee (f:=47) rfl ?_);refine goesL_ (some 8) rfl rfl Try.func47 (by kernel_rfl) rfl #[.int .i64 a0] rfl (by (try simp only [List.map_toArray,List.map_cons,List.map_nil]);first|done|rfl|(simp only [List.length_drop,List.length_take];rfl)) ?_;(with_reducible refine (cmp_isNaN_int.calls a0 true _ A3.out).mono ?_);rintro e w' ⟨rfl,⟨nd,rfl⟩⟩;refine ⟨_,rfl,?_⟩)|((with_reducible refine gate_callee (f:=47) rfl ?_);refine goesL_ (some 10) rfl rfl Try.func47 (by kernel_rfl) rfl #[.int .i64 a1] rfl (by (try simp only [List.map_toArray,List.map_cons,List.map_nil]);first|done|rfl|(simp only [List.length_drop,List.length_take];rfl)) ?_;(with_reducible refine (cmp_isNaN_int.calls a1 true _ A4.out).mono ?_);rintro e w' ⟨rfl,⟨nd,rfl⟩⟩;refine ⟨_,rfl,?_⟩))
   go_ret
   exact ⟨by first|rfl|(simp;done)|(simp [*];done),by repeat (first|exact Drawn0.refl _|apply Drawn0.step)⟩
  replace c6:=Bool.eq_false_iff.mpr c6
  subst c6
  have H1 : (some (-1)) = some r:=by rw [if_neg (show ¬ (false = true) by decide)] at H;exact H
  clear H
  have H:=H1
  clear H1
  obtain rfl:=Option.some.inj H
  go_enter Try.func37,Try.ntmps37
  go_wp2_with (first|((with_reducible refine gate_callee (f:=47) rfl ?_);refine goesL_ (some 8) rfl rfl Try.func47 (by kernel_rfl) rfl #[.int .i64 a0] rfl (by (try simp only [List.map_toArray,List.map_cons,List.map_nil]);first|done|rfl|(simp only [List.length_drop,List.length_take];rfl)) ?_;(with_reducible refine (cmp_isNaN_int.calls a0 true _ A3.out).mono ?_);rintro e w' ⟨rfl,⟨nd,rfl⟩⟩;refine ⟨_,rfl,?_⟩)|((with_reducible refine gate_callee (f:=47) rfl ?_);refine goesL_ (some 10) rfl rfl Try.func47 (by kernel_rfl) rfl #[.int .i64 a1] rfl (by (try simp only [List.map_toArray,List.map_cons,List.map_nil]);first|done|rfl|(simp only [List.length_drop,List.length_take];rfl)) ?_;(with_reducible refine (cmp_isNaN_int.calls a1 false _ A4.out).mono ?_);rintro e w' ⟨rfl,⟨nd,rfl⟩⟩;refine ⟨_,rfl,?_⟩))
  go_ret
  exact ⟨by first|rfl|(simp;done)|(simp [*];done),by repeat (first|exact Drawn0.refl _|apply Drawn0.step)⟩
 replace c5:=Bool.eq_false_iff.mpr c5
 subst c5
 have H1 : (if t125 = true then (some 1) else (if a0 < a1 then (some (-1)) else (if a0 > a1 then (some 1) else (some 0)))) = some r:=by rw [if_neg (show ¬ (false = true) by decide)] at H;exact H
 clear H
 have H:=H1
 clear H1
 by_cases c7 : t125 = true
 ·subst c7
  have H1 : (some 1) = some r:=by rw [if_pos rfl] at H;exact H
  clear H
  have H:=H1
  clear H1
  obtain rfl:=Option.some.inj H
  go_enter Try.func37,Try.ntmps37
  go_wp2_with (first|((with_reducible refine gate_callee (f:=47) rfl ?_);refine goesL_ (some 8) rfl rfl Try.func47 (by kernel_rfl) rfl #[.int .i64 a0] rfl (by (try simp only [List.map_toArray,List.map_cons,List.map_nil]);first|done|rfl|(simp only [List.length_drop,List.length_take];rfl)) ?_;(with_reducible refine (cmp_isNaN_int.calls a0 false _ A3.out).mono ?_);rintro e w' ⟨rfl,⟨nd,rfl⟩⟩;refine ⟨_,rfl,?_⟩)|((with_reducible refine gate_callee (f:=47) rfl ?_);refine goesL_ (some 10) rfl rfl Try.func47 (by kernel_rfl) rfl #[.int .i64 a1] rfl (by (try simp only [List.map_toArray,List.map_cons,List.map_nil]);first|done|rfl|(simp only [List.length_drop,List.length_take];rfl)) ?_;(with_reducible refine (cmp_isNaN_int.calls a1 true _ A4.out).mono ?_);rintro e w' ⟨rfl,⟨nd,rfl⟩⟩;refine ⟨_,rfl,?_⟩))
  go_ret
  exact ⟨by first|rfl|(simp;done)|(simp [*];done),by repeat (first|exact Drawn0.refl _|apply Drawn0.step)⟩
 replace c7:=Bool.eq_false_iff.mpr c7
 subst c7
 have H1 : (if a0 < a1 then (some (-1)) else (if a0 > a1 then (some 1) else (some 0))) = some r:=by rw [if_neg (show ¬ (false = true) by decide)] at H;exact H
 clear H
 have H:=H1
 clear H1
 by_cases c8 : a0 < a1
 ·rw [if_pos c8] at H
  have c8b0 : decide (a0 < a1) = true:=decide_eq_true c8
  clear c8
  obtain rfl:=Option.some.inj H
  go_enter Try.func37,Try.ntmps37
  go_wp2_with (first|((with_reducible refine gate_callee (f:=47) rfl ?_);refine goesL_ (some 8) rfl rfl Try.func47 (by kernel_rfl) rfl #[.int .i64 a0] rfl (by (try simp only [List.map_toArray,List.map_cons,List.map_nil]);first|done|rfl|(simp only [List.length_drop,List.length_take];rfl)) ?_;(with_reducible refine (cmp_isNaN_int.calls a0 false _ A3.out).mono ?_);rintro e w' ⟨rfl,⟨nd,rfl⟩⟩;refine ⟨_,rfl,?_⟩)|((with_reducible refine gate_callee (f:=47) rfl ?_);refine goesL_ (some 10) rfl rfl Try.func47 (by kernel_rfl) rfl #[.int .i64 a1] rfl (by (try simp only [List.map_toArray,List.map_cons,List.map_nil]);first|done|rfl|(simp only [List.length_drop,List.length_take];rfl)) ?_;(with_reducible refine (cmp_isNaN_int.calls a1 false _ A4.out).mono ?_);rintro e w' ⟨rfl,⟨nd,rfl⟩⟩;refine ⟨_,rfl,?_⟩))
  go_ret
  exact ⟨by first|rfl|(simp;done)|(simp [*];done),by repeat (first|exact Drawn0.refl _|apply Drawn0.step)⟩
 rw [if_neg c8] at H
 have c8b0 : decide (a0 < a1) = false:=decide_eq_false c8
 clear c8
 by_cases c9 : a0 > a1
 ·rw [if_pos c9] at H
  have c9b0 : decide (a1 < a0) = true:=decide_eq_true c9
  clear c9
  obtain rfl:=Option.some.inj H
  go_enter Try.func37,Try.ntmps37
  go_wp2_with (first|((with_reducible refine gate_callee (f:=47) rfl ?_);refine goesL_ (some 8) rfl rfl Try.func47 (by kernel_rfl) rfl #[.int .i64 a0] rfl (by (try simp only [List.map_toArray,List.map_cons,List.map_nil]);first|done|rfl|(simp only [List.length_drop,List.length_take];rfl)) ?_;(with_reducible refine (cmp_isNaN_int.calls a0 false _ A3.out).mono ?_);rintro e w' ⟨rfl,⟨nd,rfl⟩⟩;refine ⟨_,rfl,?_⟩)|((with_reducible refine gate_callee (f:=47) rfl ?_);refine goesL_ (some 10) rfl rfl Try.func47 (by kernel_rfl) rfl #[.int .i64 a1] rfl (by (try simp only [List.map_toArray,List.map_cons,List.map_nil]);first|done|rfl|(simp only [List.length_drop,List.length_take];rfl)) ?_;(with_reducible refine (cmp_isNaN_int.calls a1 false _ A4.out).mono ?_);rintro e w' ⟨rfl,⟨nd,rfl⟩⟩;refine ⟨_,rfl,?_⟩))
  go_ret
  exact ⟨by first|rfl|(simp;done)|(simp [*];done),by repeat (first|exact Drawn0.refl _|apply Drawn0.step)⟩
 rw [if_neg c9] at H
 have c9b0 : decide (a1 < a0) = false:=decide_eq_false c9
 clear c9
 obtain rfl:=Option.some.inj H
 go_enter Try.func37,Try.ntmps37
 go_wp2_with (first|((with_reducible refine gate_callee (f:=47) rfl ?_);refine goesL_ (some 8) rfl rfl Try.func47 (by kernel_rfl) rfl #[.int .i64 a0] rfl (by (try simp only [List.map_toArray,List.map_cons,List.map_nil]);first|done|rfl|(simp only [List.length_drop,List.length_take];rfl)) ?_;(with_reducible refine (cmp_isNaN_int.calls a0 false _ A3.out).mono ?_);rintro e w' ⟨rfl,⟨nd,rfl⟩⟩;refine ⟨_,rfl,?_⟩)|((with_reducible refine gate_callee (f:=47) rfl ?_);refine goesL_ (some 10) rfl rfl Try.func47 (by kernel_rfl) rfl #[.int .i64 a1] rfl (by (try simp only [List.map_toArray,List.map_cons,List.map_nil]);first|done|rfl|(simp only [List.length_drop,List.length_take];rfl)) ?_;(with_reducible refine (cmp_isNaN_int.calls a1 false _ A4.out).mono ?_);rintro e w' ⟨rfl,⟨nd,rfl⟩⟩;refine ⟨_,rfl,?_⟩))
 go_ret
 exact ⟨by first|rfl|(simp;done)|(simp [*];done),by repeat (first|exact Drawn0.refl _|apply Drawn0.step)⟩

end Go.Proofs.Ytbecejhjdagkdaa.L
