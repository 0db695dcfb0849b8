-- Written by pp.py (a program of this session, over the kit's print.py) out of the translation. Not trusted: Lean checks it.
import Derived.Test.YtbecejhjdagkdaaLx0
import Derived.Test.YtbecejhjdagkdaaLx2
import Derived.Test.YtbecejhjdagkdaaLx3
namespace Go.Proofs.Ytbecejhjdagkdaa.L
open Go.RowKit Go.Proofs.YtbecejhjdagkdaaW.PrintWords Go.Proofs.YtbecejhjdagkdaaW.PrintLast Go.Proofs.YtbecejhjdagkdaaW.PrintMore
attribute [local go_sem] max2_int min2_int max_two min_two max_three min_three max_four min_four   -- for this text's walks alone
attribute [local go_sem] pp_mod256 pp_mod256_w
set_option linter.unusedVariables false
set_option linter.unusedSimpArgs false


/-! ### leadlag_Order_1: function 36 -/
def leadlag_Order_1.j0 : Nat→Bool→Int→Bool→Bool→Int→Bool→Bool→Option (Int)
 | 0,_,_,_,_,_,_,_ => none
 | k + 1,x18,x130000,x130001,x130002,x131000,x131001,x131002 => if x18 = true then (some 0) else (if x130002 = true then (some 1) else (if x131002 = true then (some (-1)) else ((cmp_Compare_int.f x130000 x131000).bind fun t131 => (some t131))))
def leadlag_Order_1.f (k : Nat) (a0 : Int) (a1 : Int) (l2_0 : List (S62)) (a2_1 : Int) (a2_2 : Int) : Option (Int):=if 0 ≤ a0 then (if a0 < (l2_0.length : Int) then (if 0 ≤ a1 then (if a1 < (l2_0.length : Int) then (if (rd_T62 l2_0 a0).f2 = true then (leadlag_Order_1.j0 k ((rd_T62 l2_0 a1).f2) ((rd_T62 l2_0 a0).f0) ((rd_T62 l2_0 a0).f1) ((rd_T62 l2_0 a0).f2) ((rd_T62 l2_0 a1).f0) ((rd_T62 l2_0 a1).f1) ((rd_T62 l2_0 a1).f2)) else (leadlag_Order_1.j0 k false ((rd_T62 l2_0 a0).f0) ((rd_T62 l2_0 a0).f1) ((rd_T62 l2_0 a0).f2) ((rd_T62 l2_0 a1).f0) ((rd_T62 l2_0 a1).f1) ((rd_T62 l2_0 a1).f2))) else (none)) else (none)) else (none)) else (none)
theorem leadlag_Order_1.mono_l : ∀ k,(∀ y0 y1 y2 y3 y4 y5 y6,LeO (leadlag_Order_1.j0 k y0 y1 y2 y3 y4 y5 y6) (leadlag_Order_1.j0 (k + 1) y0 y1 y2 y3 y4 y5 y6))
 | 0 => fun _ _ _ _ _ _ _ r h => by simp [leadlag_Order_1.j0] at h
 | k + 1 => by
  have ih0:=leadlag_Order_1.mono_l k
  ·intro y0 y1 y2 y3 y4 y5 y6
   unfold leadlag_Order_1.j0
   repeat' first
   | (with_reducible exact ih0 _ _ _ _ _ _ _)
   | (with_reducible exact LeO.refl _)
   | (with_reducible exact LeO.none _)
   | (with_reducible refine LeO.ite ?_ ?_)
   | (with_reducible refine LeO.bind ?_ (fun _ => ?_))
   | exact ih0 _ _ _ _ _ _ _
   | exact LeO.none _
   | refine LeO.ite ?_ ?_
   | refine LeO.bind ?_ (fun _ => ?_)
theorem leadlag_Order_1.mono : ∀ a0 a1 a2 a3 a4 k,LeO (leadlag_Order_1.f k a0 a1 a2 a3 a4) (leadlag_Order_1.f (k + 1) a0 a1 a2 a3 a4):=by
 intro a0 a1 a2 a3 a4 k
 have ih0:=leadlag_Order_1.mono_l k
 unfold leadlag_Order_1.f
 repeat' first
   | (with_reducible exact ih0 _ _ _ _ _ _ _)
   | (with_reducible exact LeO.refl _)
   | (with_reducible exact LeO.none _)
   | (with_reducible refine LeO.ite ?_ ?_)
   | (with_reducible refine LeO.bind ?_ (fun _ => ?_))
   | exact ih0 _ _ _ _ _ _ _
   | exact LeO.none _
   | refine LeO.ite ?_ ?_
   | refine LeO.bind ?_ (fun _ => ?_)
def leadlag_Order_1.T1 : Bool × List (List Nat × List Nat):=(true,[([],[]),([0],[0]),([],[]),([1,2],[1,2]),([3],[3]),([],[]),([5],[5]),([],[]),([6,7],[6,7]),([8],[8]),([],[]),([],[]),([10,4,0,1,2,3,4,10,11],[4,10]),([11,9,12,0,1,2,3,4,5,6,7,8,9,10,11,12],[9,11])])
def leadlag_Order_1.B1 : List Nat:=[0,1,0,7,15,0,32,0,224,480,0,0,3103,8191]
theorem leadlag_Order_1.tab1 : rtab .any (opsOf Try.f36 1) = leadlag_Order_1.T1:=by kernel_rfl
theorem leadlag_Order_1.bits1 : waitsOk leadlag_Order_1.T1.2 leadlag_Order_1.B1 = true:=by kernel_rfl
set_option maxHeartbeats 8000000 in
set_option maxRecDepth 100000 in
theorem leadlag_Order_1.calls (k : Nat) (a0 : Int) (a1 : Int) (A2_0 : Option Addr) (c2_0 : Nat) (l2_0 : List (S62)) (a2_1 : Int) (a2_2 : Int) (r : Int) (w : World) (gb126 : Nat) (hgb_ : w.heap[gb126]? = some (.cells #[.slice A2_0 l2_0.length c2_0,.int .i64 a2_1,.int .i64 a2_2] 32 (0,0))) (hr2_0 : Kd.C k62 w A2_0 l2_0.length l2_0) (hc2_0 : l2_0.length ≤ c2_0) (h : leadlag_Order_1.f k a0 a1 l2_0 a2_1 a2_2 = some r) :
  Calls Try.prog 36 #[.int .i64 a0,.int .i64 a1,.pointer (some ⟨gb126,0,none⟩)] w fun e w' => e = .returned (.int .i64 r)∧Below w.heap.size w w':=by
 have hu32:=Try.underlying32
 have hu62:=Try.underlying62
 have HR2_0:=Aside0.mk hr2_0
 have HC2_0:=Aside0.mk hc2_0
 clear hr2_0 hc2_0
 have HB:=Aside0.mk (Below.refl w.heap.size w)
 have H : (if 0 ≤ a0 then (if a0 < (l2_0.length : Int) then (if 0 ≤ a1 then (if a1 < (l2_0.length : Int) then (if (rd_T62 l2_0 a0).f2 = true then (leadlag_Order_1.j0 k ((rd_T62 l2_0 a1).f2) ((rd_T62 l2_0 a0).f0) ((rd_T62 l2_0 a0).f1) ((rd_T62 l2_0 a0).f2) ((rd_T62 l2_0 a1).f0) ((rd_T62 l2_0 a1).f1) ((rd_T62 l2_0 a1).f2)) else (leadlag_Order_1.j0 k false ((rd_T62 l2_0 a0).f0) ((rd_T62 l2_0 a0).f1) ((rd_T62 l2_0 a0).f2) ((rd_T62 l2_0 a1).f0) ((rd_T62 l2_0 a1).f1) ((rd_T62 l2_0 a1).f2))) else (none)) else (none)) else (none)) else (none)) = some r:=h
 clear h
 by_cases c4 : 0 ≤ a0
 rotate_left
 ·rw [if_neg c4] at H
  exact absurd H (by simp)




 rw [if_pos c4] at H
 have c4b0 : decide (0 ≤ a0) = true:=decide_eq_true c4
 clear c4
 by_cases c5 : a0 < (l2_0.length : Int)
 rotate_left
 ·rw [if_neg c5] at H
  exact absurd H (by simp)
 rw [if_pos c5] at H
 have c5b0 : decide (a0 < (l2_0.length : Int)) = true:=decide_eq_true c5
 clear c5
 by_cases c6 : 0 ≤ a1
 rotate_left
 ·rw [if_neg c6] at H
  exact absurd H (by simp)
 rw [if_pos c6] at H
 have c6b0 : decide (0 ≤ a1) = true:=decide_eq_true c6
 clear c6
 by_cases c7 : a1 < (l2_0.length : Int)
 rotate_left
 ·rw [if_neg c7] at H
  exact absurd H (by simp)
 rw [if_pos c7] at H
 have c7b0 : decide (a1 < (l2_0.length : Int)) = true:=decide_eq_true c7
 clear c7
 have HC8:=Aside0.mk H
 clear H
 go_enter Try.func36,Try.ntmps36
 go_wp2
 have BK126:=Aside0.mk hgb_
 have n0_:=Aside0.mk (blk_drew BK126.out)
 have n1_:=Aside0.mk (below_drew1 HB.out)
 clear BK126
 clear HB
 have BK126:=n0_
 have HB:=n1_
 clear n0_ n1_
 have p127 : 0 ≤ (a0 : Int):=of_decide_eq_true (by first|(with_reducible assumption)|assumption)
 have q127 : a0 < (l2_0.length : Int):=of_decide_eq_true (by first|(with_reducible assumption)|assumption)
 obtain ⟨ad127,e127,hx127_0,hx127_1,hx127_2⟩:=at_T62 HR2_0.out a0 p127 q127
 have hw127_2:=hx127_2
 have hw127_1:=hx127_1
 have hw127_0:=hx127_0
 cases e127
 replace hx127_0:=(HB.out.cell (World.block_lt_of_cell? w _ hx127_0)).trans hx127_0
 replace hx127_1:=(HB.out.cell (World.block_lt_of_cell? w _ hx127_1)).trans hx127_1
 replace hx127_2:=(HB.out.cell (World.block_lt_of_cell? w _ hx127_2)).trans hx127_2
 replace p127:=eq_true p127
 replace q127:=eq_true q127
 have p128 : 0 ≤ (a1 : Int):=of_decide_eq_true (by first|(with_reducible assumption)|assumption)
 have q128 : a1 < (l2_0.length : Int):=of_decide_eq_true (by first|(with_reducible assumption)|assumption)
 obtain ⟨ad128,e128,hx128_0,hx128_1,hx128_2⟩:=at_T62 HR2_0.out a1 p128 q128
 have hw128_2:=hx128_2
 have hw128_1:=hx128_1
 have hw128_0:=hx128_0
 obtain rfl : ad127 = ad128:=(by injection e128)
 replace hx128_0:=(HB.out.cell (World.block_lt_of_cell? w _ hx128_0)).trans hx128_0
 replace hx128_1:=(HB.out.cell (World.block_lt_of_cell? w _ hx128_1)).trans hx128_1
 replace hx128_2:=(HB.out.cell (World.block_lt_of_cell? w _ hx128_2)).trans hx128_2
 replace p128:=eq_true p128
 replace q128:=eq_true q128
 refine start_ (n:=14) (S:=fun w' => w'.cell? ⟨gb126,0,none⟩ = some (.slice (some ad127) l2_0.length c2_0)∧w'.cell? ⟨gb126,1,none⟩ = some (.int .i64 a2_1)∧w'.cell? ⟨gb126,2,none⟩ = some (.int .i64 a2_2)∧w'.cell? (ad127.add ((a0).toNat * 3)) = some (.int .i64 ((rd_T62 l2_0 a0).f0))∧w'.cell? ⟨(ad127.add ((a0).toNat * 3)).block,(ad127.add ((a0).toNat * 3)).off + 1,none⟩ = some (.bool ((rd_T62 l2_0 a0).f1))∧w'.cell? ⟨(ad127.add ((a0).toNat * 3)).block,(ad127.add ((a0).toNat * 3)).off + 2,none⟩ = some (.bool ((rd_T62 l2_0 a0).f2))∧w'.cell? (ad127.add ((a1).toNat * 3)) = some (.int .i64 ((rd_T62 l2_0 a1).f0))∧w'.cell? ⟨(ad127.add ((a1).toNat * 3)).block,(ad127.add ((a1).toNat * 3)).off + 1,none⟩ = some (.bool ((rd_T62 l2_0 a1).f1))∧w'.cell? ⟨(ad127.add ((a1).toNat * 3)).block,(ad127.add ((a1).toNat * 3)).off + 2,none⟩ = some (.bool ((rd_T62 l2_0 a1).f2))) (ds:=[]) #[false,false,false,false,false,false,false,false,false,false,false,false,false,false] (by kernel_rfl) rfl rfl ⟨(blk_cell BK126.out 0).trans rfl,(blk_cell BK126.out 1).trans rfl,(blk_cell BK126.out 2).trans rfl,((HB.out.cell (World.block_lt_of_cell? w _ hw127_0)).trans hw127_0),((HB.out.cell (World.block_lt_of_cell? w _ hw127_1)).trans hw127_1),((HB.out.cell (World.block_lt_of_cell? w _ hw127_2)).trans hw127_2),((HB.out.cell (World.block_lt_of_cell? w _ hw128_0)).trans hw128_0),((HB.out.cell (World.block_lt_of_cell? w _ hw128_1)).trans hw128_1),((HB.out.cell (World.block_lt_of_cell? w _ hw128_2)).trans hw128_2)⟩ (fun hHeld => ?_);refine with_tabW leadlag_Order_1.tab1 leadlag_Order_1.bits1 (fun HT_ HW_ => ?_)
 generalize w.drew = w10 at BK126 HB hx127_0 hx127_1 hx127_2 hx128_0 hx128_1 hx128_2 hHeld ⊢
 refine pure_ (i:=0) (N:=some 8) (v:=?_) (a':=?_) #[true,false,false,false,false,false,false,false,false,false,false,false,false,false] rfl rfl (any_of HT_.out (by kernel_rfl)) (fun _ _ _ h => h) (Or.inl ⟨by rfl,?_⟩) ?_ ?_
 rotate_left;(intro w';go_simp;with_reducible rfl);rotate_left;(simp only [Act.put,List.setIfInBounds_toArray,List.set_cons_zero,List.set_cons_succ,i64_w,i32_w];rfl)
 refine pure_ (i:=2) (N:=some 10) (v:=?_) (a':=?_) #[true,false,true,false,false,false,false,false,false,false,false,false,false,false] rfl rfl (any_of HT_.out (by kernel_rfl)) (fun _ _ _ h => h) (Or.inl ⟨by rfl,?_⟩) ?_ ?_
 rotate_left;(intro w';go_simp;with_reducible rfl);rotate_left;(simp only [Act.put,List.setIfInBounds_toArray,List.set_cons_zero,List.set_cons_succ,i64_w,i32_w];rfl)
 refine pure_ (i:=5) (N:=some 13) (v:=?_) (a':=?_) #[true,false,true,false,false,true,false,false,false,false,false,false,false,false] rfl rfl (any_of HT_.out (by kernel_rfl)) (fun _ _ _ h => h) (Or.inl ⟨by rfl,?_⟩) ?_ ?_
 rotate_left;(intro w';go_simp;with_reducible rfl);rotate_left;(simp only [Act.put,List.setIfInBounds_toArray,List.set_cons_zero,List.set_cons_succ,i64_w,i32_w];rfl)
 refine pure_ (i:=7) (N:=some 15) (v:=?_) (a':=?_) #[true,false,true,false,false,true,false,true,false,false,false,false,false,false] rfl rfl (any_of HT_.out (by kernel_rfl)) (fun _ _ _ h => h) (Or.inl ⟨by rfl,?_⟩) ?_ ?_
 rotate_left;(intro w';go_simp;with_reducible rfl);rotate_left;(simp only [Act.put,List.setIfInBounds_toArray,List.set_cons_zero,List.set_cons_succ,i64_w,i32_w];rfl)
 refine take_ (i:=1) (N:=some 9) (v:=?_) (a':=?_) #[true,true,true,false,false,true,false,true,false,false,false,false,false,false] rfl rfl (take_ofW HT_.out HW_.out (by kernel_rfl)) (fun _ _ _ h => h) (Or.inl ⟨by rfl,?_⟩) hHeld ?_ ?_
 rotate_left;(rintro w' ⟨s0,s1,s2,s3,s4,s5,s6,s7,s8⟩;go_simp;with_reducible rfl);rotate_left;(simp only [Act.put,List.setIfInBounds_toArray,List.set_cons_zero,List.set_cons_succ,i64_w,i32_w];rfl)
 refine pure_ (i:=3) (N:=some 11) (v:=?_) (a':=?_) #[true,true,true,true,false,true,false,true,false,false,false,false,false,false] rfl rfl (any_of HT_.out (by kernel_rfl)) (fun _ _ _ h => h) (Or.inl ⟨by rfl,?_⟩) ?_ ?_
 rotate_left;(intro w';go_simp;with_reducible rfl);rotate_left;(simp only [Act.put,List.setIfInBounds_toArray,List.set_cons_zero,List.set_cons_succ,i64_w,i32_w];rfl)
 refine take_ (i:=4) (N:=some 12) (v:=?_) (a':=?_) #[true,true,true,true,true,true,false,true,false,false,false,false,false,false] rfl rfl (take_ofW HT_.out HW_.out (by kernel_rfl)) (fun _ _ _ h => h) (Or.inl ⟨by rfl,?_⟩) hHeld ?_ ?_
 rotate_left;(rintro w' ⟨s0,s1,s2,s3,s4,s5,s6,s7,s8⟩;go_simp;with_reducible rfl);rotate_left;(simp only [Act.put,List.setIfInBounds_toArray,List.set_cons_zero,List.set_cons_succ,i64_w,i32_w];rfl)
 refine take_ (i:=6) (N:=some 14) (v:=?_) (a':=?_) #[true,true,true,true,true,true,true,true,false,false,false,false,false,false] rfl rfl (take_ofW HT_.out HW_.out (by kernel_rfl)) (fun _ _ _ h => h) (Or.inl ⟨by rfl,?_⟩) hHeld ?_ ?_
 rotate_left;(rintro w' ⟨s0,s1,s2,s3,s4,s5,s6,s7,s8⟩;go_simp;with_reducible rfl);rotate_left;(simp only [Act.put,List.setIfInBounds_toArray,List.set_cons_zero,List.set_cons_succ,i64_w,i32_w];rfl)
 refine pure_ (i:=8) (N:=some 16) (v:=?_) (a':=?_) #[true,true,true,true,true,true,true,true,true,false,false,false,false,false] rfl rfl (any_of HT_.out (by kernel_rfl)) (fun _ _ _ h => h) (Or.inl ⟨by rfl,?_⟩) ?_ ?_
 rotate_left;(intro w';go_simp;with_reducible rfl);rotate_left;(simp only [Act.put,List.setIfInBounds_toArray,List.set_cons_zero,List.set_cons_succ,i64_w,i32_w];rfl)
 refine take_ (i:=9) (N:=some 17) (v:=?_) (a':=?_) #[true,true,true,true,true,true,true,true,true,true,false,false,false,false] rfl rfl (take_ofW HT_.out HW_.out (by kernel_rfl)) (fun _ _ _ h => h) (Or.inl ⟨by rfl,?_⟩) hHeld ?_ ?_
 rotate_left;(rintro w' ⟨s0,s1,s2,s3,s4,s5,s6,s7,s8⟩;go_simp;with_reducible rfl);rotate_left;(simp only [Act.put,List.setIfInBounds_toArray,List.set_cons_zero,List.set_cons_succ,i64_w,i32_w];rfl)
 refine join_ (σ:=Nat × Nat) 2 #[true,true,true,true,true,true,true,true,true,true,true,true,false,false] (fun s_ => [(6,.pointer (some ⟨s_.1,0,none⟩)),(7,.pointer (some ⟨s_.2,0,none⟩))]) (fun s_ w' => (w'.cell? ⟨gb126,0,none⟩ = some (.slice (some ad127) l2_0.length c2_0)∧w'.cell? ⟨gb126,1,none⟩ = some (.int .i64 a2_1)∧w'.cell? ⟨gb126,2,none⟩ = some (.int .i64 a2_2)∧w'.cell? (ad127.add ((a0).toNat * 3)) = some (.int .i64 ((rd_T62 l2_0 a0).f0))∧w'.cell? ⟨(ad127.add ((a0).toNat * 3)).block,(ad127.add ((a0).toNat * 3)).off + 1,none⟩ = some (.bool ((rd_T62 l2_0 a0).f1))∧w'.cell? ⟨(ad127.add ((a0).toNat * 3)).block,(ad127.add ((a0).toNat * 3)).off + 2,none⟩ = some (.bool ((rd_T62 l2_0 a0).f2))∧w'.cell? (ad127.add ((a1).toNat * 3)) = some (.int .i64 ((rd_T62 l2_0 a1).f0))∧w'.cell? ⟨(ad127.add ((a1).toNat * 3)).block,(ad127.add ((a1).toNat * 3)).off + 1,none⟩ = some (.bool ((rd_T62 l2_0 a1).f1))∧w'.cell? ⟨(ad127.add ((a1).toNat * 3)).block,(ad127.add ((a1).toNat * 3)).off + 2,none⟩ = some (.bool ((rd_T62 l2_0 a1).f2)))∧(w'.heap[gb126]? = some (.cells #[.slice (some ad127) l2_0.length c2_0,.int .i64 a2_1,.int .i64 a2_2] 32 (0,0)))∧(w'.heap[s_.1]? = some (.cells #[.int .i64 0,.bool false,.bool false] 62 (0,0)))∧(w'.heap[s_.2]? = some (.cells #[.int .i64 0,.bool false,.bool false] 62 (0,0)))∧(w.heap.size ≤ s_.1)∧(w.heap.size ≤ s_.1)∧(gb126 ≠ s_.1)∧(s_.1 ≠ gb126)∧(s_.2 ≠ s_.1)∧(s_.1 ≠ s_.2)∧(w.heap.size ≤ s_.2)∧(w.heap.size ≤ s_.2)∧(gb126 ≠ s_.2)∧(s_.2 ≠ gb126)∧(Below w.heap.size w w')) ?_ ?_
 rotate_left
 ·intro hCont
  refine two_ (i:=10) (j:=11) (Ni:=some 6) (Nj:=some 7) #[true,true,true,true,true,true,true,true,true,true,true,false,false,false] #[true,true,true,true,true,true,true,true,true,true,false,true,false,false] rfl rfl rfl rfl (two_of HT_.out (by kernel_rfl)) (by decide) (by decide) (fun K hK => ?_) (fun K hK => ?_)
  ·skip
   refine box_step ?hg (N:=6) ?hd (cs:=#[.int .i64 0,.bool false,.bool false]) (t:=62) ?hr ?_;(case hd => rfl);(case hg => rfl);(case hr => first|(go_simp;done)|(go_simp;rfl))
   intro gb129 hg w11 hbox hb
   have n0_:=Aside0.mk (blk_below (g:=gb126) (o:=.cells #[.slice (some ad127) l2_0.length c2_0,.int .i64 a2_1,.int .i64 a2_2] 32 (0,0)) (by (with_reducible repeat (first|refine blk_drewN ?_ _|refine blk_drew ?_|refine blk_alloc ?_ _));exact BK126.out) hb)
   have n1_:=Aside0.mk (below_step (by repeat (first|(with_reducible first|exact HB.out|apply below_alloc|apply pw_below_drewN|apply below_drew1|refine below_set ?_ GE126.out)|exact HB.out)) hb)
   have n2_:=Aside0.mk (hbox)
   have n3_:=Aside0.mk ((by rw [hg];exact (below_size (by repeat (first|(with_reducible first|exact HB.out|apply below_alloc|apply pw_below_drewN|apply below_drew1|refine below_set ?_ GE126.out)|exact HB.out))) : w.heap.size ≤ gb129))
   have n4_:=Aside0.mk ((by rw [hg];exact (below_size (by repeat (first|(with_reducible first|exact HB.out|apply below_alloc|apply pw_below_drewN|apply below_drew1|refine below_set ?_ GE126.out)|exact HB.out))) : w.heap.size ≤ gb129))
   have n5_:=Aside0.mk ((by rw [hg];exact Nat.ne_of_lt (blk_lt (g:=gb126) (o:=.cells #[.slice (some ad127) l2_0.length c2_0,.int .i64 a2_1,.int .i64 a2_2] 32 (0,0)) (by (with_reducible repeat (first|refine blk_drewN ?_ _|refine blk_drew ?_|refine blk_alloc ?_ _));exact BK126.out)) : gb126 ≠ gb129))
   have n6_:=Aside0.mk ((by rw [hg];exact Nat.ne_of_gt (blk_lt (g:=gb126) (o:=.cells #[.slice (some ad127) l2_0.length c2_0,.int .i64 a2_1,.int .i64 a2_2] 32 (0,0)) (by (with_reducible repeat (first|refine blk_drewN ?_ _|refine blk_drew ?_|refine blk_alloc ?_ _));exact BK126.out)) : gb129 ≠ gb126))
   clear BK126
   clear HB
   have BK126:=n0_
   have HB:=n1_
   have BK129:=n2_
   have GW129:=n3_
   have GE129:=n4_
   have NB126_129:=n5_
   have NB129_126:=n6_
   clear n0_ n1_ n2_ n3_ n4_ n5_ n6_
   clear hb hbox hg
   refine hK.out _ _ ⟨(blk_cell BK126.out 0).trans rfl,(blk_cell BK126.out 1).trans rfl,(blk_cell BK126.out 2).trans rfl,((HB.out.cell (World.block_lt_of_cell? w _ hw127_0)).trans hw127_0),((HB.out.cell (World.block_lt_of_cell? w _ hw127_1)).trans hw127_1),((HB.out.cell (World.block_lt_of_cell? w _ hw127_2)).trans hw127_2),((HB.out.cell (World.block_lt_of_cell? w _ hw128_0)).trans hw128_0),((HB.out.cell (World.block_lt_of_cell? w _ hw128_1)).trans hw128_1),((HB.out.cell (World.block_lt_of_cell? w _ hw128_2)).trans hw128_2)⟩ (fun hHeld => ?_)
   clear hK K
   refine norm_ (a':=?_) ?_ ?_
   rotate_left
   ·show Act.put _ (some 6) _ = _
    simp only [Act.put,List.setIfInBounds_toArray,List.set_cons_zero,List.set_cons_succ,i64_w,i32_w]
    rfl
   refine one_ (i:=11) (N:=some 7) #[true,true,true,true,true,true,true,true,true,true,true,true,false,false] rfl rfl (one_of HT_.out (by kernel_rfl)) (by decide) (fun K hK => ?_)
   refine box_step ?hg (N:=7) ?hd (cs:=#[.int .i64 0,.bool false,.bool false]) (t:=62) ?hr ?_;(case hd => rfl);(case hg => rfl);(case hr => first|(go_simp;done)|(go_simp;rfl))
   intro gb130 hg w12 hbox hb
   have n0_:=Aside0.mk (blk_below (g:=gb126) (o:=.cells #[.slice (some ad127) l2_0.length c2_0,.int .i64 a2_1,.int .i64 a2_2] 32 (0,0)) (by (with_reducible repeat (first|refine blk_drewN ?_ _|refine blk_drew ?_|refine blk_alloc ?_ _));exact BK126.out) hb)
   have n1_:=Aside0.mk (blk_below (g:=gb129) (o:=.cells #[.int .i64 0,.bool false,.bool false] 62 (0,0)) (by (with_reducible repeat (first|refine blk_drewN ?_ _|refine blk_drew ?_|refine blk_alloc ?_ _));exact BK129.out) hb)
   have n2_:=Aside0.mk (below_step (by repeat (first|(with_reducible first|exact HB.out|apply below_alloc|apply pw_below_drewN|apply below_drew1|refine below_set ?_ GE126.out|refine below_set ?_ GE129.out)|exact HB.out)) hb)
   have n3_:=Aside0.mk (hbox)
   have n4_:=Aside0.mk ((by rw [hg];exact (below_size (by repeat (first|(with_reducible first|exact HB.out|apply below_alloc|apply pw_below_drewN|apply below_drew1|refine below_set ?_ GE126.out|refine below_set ?_ GE129.out)|exact HB.out))) : w.heap.size ≤ gb130))
   have n5_:=Aside0.mk ((by rw [hg];exact (below_size (by repeat (first|(with_reducible first|exact HB.out|apply below_alloc|apply pw_below_drewN|apply below_drew1|refine below_set ?_ GE126.out|refine below_set ?_ GE129.out)|exact HB.out))) : w.heap.size ≤ gb130))
   have n6_:=Aside0.mk ((by rw [hg];exact Nat.ne_of_lt (blk_lt (g:=gb126) (o:=.cells #[.slice (some ad127) l2_0.length c2_0,.int .i64 a2_1,.int .i64 a2_2] 32 (0,0)) (by (with_reducible repeat (first|refine blk_drewN ?_ _|refine blk_drew ?_|refine blk_alloc ?_ _));exact BK126.out)) : gb126 ≠ gb130))
   have n7_:=Aside0.mk ((by rw [hg];exact Nat.ne_of_gt (blk_lt (g:=gb126) (o:=.cells #[.slice (some ad127) l2_0.length c2_0,.int .i64 a2_1,.int .i64 a2_2] 32 (0,0)) (by (with_reducible repeat (first|refine blk_drewN ?_ _|refine blk_drew ?_|refine blk_alloc ?_ _));exact BK126.out)) : gb130 ≠ gb126))
   have n8_:=Aside0.mk ((by rw [hg];exact Nat.ne_of_lt (blk_lt (g:=gb129) (o:=.cells #[.int .i64 0,.bool false,.bool false] 62 (0,0)) (by (with_reducible repeat (first|refine blk_drewN ?_ _|refine blk_drew ?_|refine blk_alloc ?_ _));exact BK129.out)) : gb129 ≠ gb130))
   have n9_:=Aside0.mk ((by rw [hg];exact Nat.ne_of_gt (blk_lt (g:=gb129) (o:=.cells #[.int .i64 0,.bool false,.bool false] 62 (0,0)) (by (with_reducible repeat (first|refine blk_drewN ?_ _|refine blk_drew ?_|refine blk_alloc ?_ _));exact BK129.out)) : gb130 ≠ gb129))
   clear BK126
   clear BK129
   clear HB
   have BK126:=n0_
   have BK129:=n1_
   have HB:=n2_
   have BK130:=n3_
   have GW130:=n4_
   have GE130:=n5_
   have NB126_130:=n6_
   have NB130_126:=n7_
   have NB129_130:=n8_
   have NB130_129:=n9_
   clear n0_ n1_ n2_ n3_ n4_ n5_ n6_ n7_ n8_ n9_
   clear hb hbox hg
   refine hK.out _ _ ⟨(blk_cell BK126.out 0).trans rfl,(blk_cell BK126.out 1).trans rfl,(blk_cell BK126.out 2).trans rfl,((HB.out.cell (World.block_lt_of_cell? w _ hw127_0)).trans hw127_0),((HB.out.cell (World.block_lt_of_cell? w _ hw127_1)).trans hw127_1),((HB.out.cell (World.block_lt_of_cell? w _ hw127_2)).trans hw127_2),((HB.out.cell (World.block_lt_of_cell? w _ hw128_0)).trans hw128_0),((HB.out.cell (World.block_lt_of_cell? w _ hw128_1)).trans hw128_1),((HB.out.cell (World.block_lt_of_cell? w _ hw128_2)).trans hw128_2)⟩ (fun hHeld => ?_)
   clear hK K
   refine norm_ (a':=?_) ?_ ?_
   rotate_left
   ·show Act.put _ (some 7) _ = _
    simp only [Act.put,List.setIfInBounds_toArray,List.set_cons_zero,List.set_cons_succ,i64_w,i32_w]
    rfl
   exact norm_ (by simp only [putAll,Act.put,List.setIfInBounds_toArray,List.set_cons_zero,List.set_cons_succ]) (hCont (gb129,gb130) _ ⟨hHeld,(by (with_reducible repeat (first|refine blk_drewN ?_ _|refine blk_drew ?_|refine blk_alloc ?_ _));exact BK126.out),(by (with_reducible repeat (first|refine blk_drewN ?_ _|refine blk_drew ?_|refine blk_alloc ?_ _));exact BK129.out),(by (with_reducible repeat (first|refine blk_drewN ?_ _|refine blk_drew ?_|refine blk_alloc ?_ _));exact BK130.out),GW129.out,GE129.out,NB126_129.out,NB129_126.out,NB130_129.out,NB129_130.out,GW130.out,GE130.out,NB126_130.out,NB130_126.out,(by repeat (first|(with_reducible first|exact HB.out|apply below_alloc|apply pw_below_drewN|apply below_drew1|refine below_set ?_ GE126.out|refine below_set ?_ GE129.out|refine below_set ?_ GE130.out)|exact HB.out))⟩)
  ·skip
   refine box_step ?hg (N:=7) ?hd (cs:=#[.int .i64 0,.bool false,.bool false]) (t:=62) ?hr ?_;(case hd => rfl);(case hg => rfl);(case hr => first|(go_simp;done)|(go_simp;rfl))
   intro gb130 hg w11 hbox hb
   have n0_:=Aside0.mk (blk_below (g:=gb126) (o:=.cells #[.slice (some ad127) l2_0.length c2_0,.int .i64 a2_1,.int .i64 a2_2] 32 (0,0)) (by (with_reducible repeat (first|refine blk_drewN ?_ _|refine blk_drew ?_|refine blk_alloc ?_ _));exact BK126.out) hb)
   have n1_:=Aside0.mk (below_step (by repeat (first|(with_reducible first|exact HB.out|apply below_alloc|apply pw_below_drewN|apply below_drew1|refine below_set ?_ GE126.out)|exact HB.out)) hb)
   have n2_:=Aside0.mk (hbox)
   have n3_:=Aside0.mk ((by rw [hg];exact (below_size (by repeat (first|(with_reducible first|exact HB.out|apply below_alloc|apply pw_below_drewN|apply below_drew1|refine below_set ?_ GE126.out)|exact HB.out))) : w.heap.size ≤ gb130))
   have n4_:=Aside0.mk ((by rw [hg];exact (below_size (by repeat (first|(with_reducible first|exact HB.out|apply below_alloc|apply pw_below_drewN|apply below_drew1|refine below_set ?_ GE126.out)|exact HB.out))) : w.heap.size ≤ gb130))
   have n5_:=Aside0.mk ((by rw [hg];exact Nat.ne_of_lt (blk_lt (g:=gb126) (o:=.cells #[.slice (some ad127) l2_0.length c2_0,.int .i64 a2_1,.int .i64 a2_2] 32 (0,0)) (by (with_reducible repeat (first|refine blk_drewN ?_ _|refine blk_drew ?_|refine blk_alloc ?_ _));exact BK126.out)) : gb126 ≠ gb130))
   have n6_:=Aside0.mk ((by rw [hg];exact Nat.ne_of_gt (blk_lt (g:=gb126) (o:=.cells #[.slice (some ad127) l2_0.length c2_0,.int .i64 a2_1,.int .i64 a2_2] 32 (0,0)) (by (with_reducible repeat (first|refine blk_drewN ?_ _|refine blk_drew ?_|refine blk_alloc ?_ _));exact BK126.out)) : gb130 ≠ gb126))
   clear BK126
   clear HB
   have BK126:=n0_
   have HB:=n1_
   have BK130:=n2_
   have GW130:=n3_
   have GE130:=n4_
   have NB126_130:=n5_
   have NB130_126:=n6_
   clear n0_ n1_ n2_ n3_ n4_ n5_ n6_
   clear hb hbox hg
   refine hK.out _ _ ⟨(blk_cell BK126.out 0).trans rfl,(blk_cell BK126.out 1).trans rfl,(blk_cell BK126.out 2).trans rfl,((HB.out.cell (World.block_lt_of_cell? w _ hw127_0)).trans hw127_0),((HB.out.cell (World.block_lt_of_cell? w _ hw127_1)).trans hw127_1),((HB.out.cell (World.block_lt_of_cell? w _ hw127_2)).trans hw127_2),((HB.out.cell (World.block_lt_of_cell? w _ hw128_0)).trans hw128_0),((HB.out.cell (World.block_lt_of_cell? w _ hw128_1)).trans hw128_1),((HB.out.cell (World.block_lt_of_cell? w _ hw128_2)).trans hw128_2)⟩ (fun hHeld => ?_)
   clear hK K
   refine norm_ (a':=?_) ?_ ?_
   rotate_left
   ·show Act.put _ (some 7) _ = _
    simp only [Act.put,List.setIfInBounds_toArray,List.set_cons_zero,List.set_cons_succ,i64_w,i32_w]
    rfl
   refine one_ (i:=10) (N:=some 6) #[true,true,true,true,true,true,true,true,true,true,true,true,false,false] rfl rfl (one_of HT_.out (by kernel_rfl)) (by decide) (fun K hK => ?_)
   refine box_step ?hg (N:=6) ?hd (cs:=#[.int .i64 0,.bool false,.bool false]) (t:=62) ?hr ?_;(case hd => rfl);(case hg => rfl);(case hr => first|(go_simp;done)|(go_simp;rfl))
   intro gb129 hg w12 hbox hb
   have n0_:=Aside0.mk (blk_below (g:=gb126) (o:=.cells #[.slice (some ad127) l2_0.length c2_0,.int .i64 a2_1,.int .i64 a2_2] 32 (0,0)) (by (with_reducible repeat (first|refine blk_drewN ?_ _|refine blk_drew ?_|refine blk_alloc ?_ _));exact BK126.out) hb)
   have n1_:=Aside0.mk (blk_below (g:=gb130) (o:=.cells #[.int .i64 0,.bool false,.bool false] 62 (0,0)) (by (with_reducible repeat (first|refine blk_drewN ?_ _|refine blk_drew ?_|refine blk_alloc ?_ _));exact BK130.out) hb)
   have n2_:=Aside0.mk (below_step (by repeat (first|(with_reducible first|exact HB.out|apply below_alloc|apply pw_below_drewN|apply below_drew1|refine below_set ?_ GE126.out|refine below_set ?_ GE130.out)|exact HB.out)) hb)
   have n3_:=Aside0.mk (hbox)
   have n4_:=Aside0.mk ((by rw [hg];exact (below_size (by repeat (first|(with_reducible first|exact HB.out|apply below_alloc|apply pw_below_drewN|apply below_drew1|refine below_set ?_ GE126.out|refine below_set ?_ GE130.out)|exact HB.out))) : w.heap.size ≤ gb129))
   have n5_:=Aside0.mk ((by rw [hg];exact (below_size (by repeat (first|(with_reducible first|exact HB.out|apply below_alloc|apply pw_below_drewN|apply below_drew1|refine below_set ?_ GE126.out|refine below_set ?_ GE130.out)|exact HB.out))) : w.heap.size ≤ gb129))
   have n6_:=Aside0.mk ((by rw [hg];exact Nat.ne_of_lt (blk_lt (g:=gb126) (o:=.cells #[.slice (some ad127) l2_0.length c2_0,.int .i64 a2_1,.int .i64 a2_2] 32 (0,0)) (by (with_reducible repeat (first|refine blk_drewN ?_ _|refine blk_drew ?_|refine blk_alloc ?_ _));exact BK126.out)) : gb126 ≠ gb129))
   have n7_:=Aside0.mk ((by rw [hg];exact Nat.ne_of_gt (blk_lt (g:=gb126) (o:=.cells #[.slice (some ad127) l2_0.length c2_0,.int .i64 a2_1,.int .i64 a2_2] 32 (0,0)) (by (with_reducible repeat (first|refine blk_drewN ?_ _|refine blk_drew ?_|refine blk_alloc ?_ _));exact BK126.out)) : gb129 ≠ gb126))
   have n8_:=Aside0.mk ((by rw [hg];exact Nat.ne_of_lt (blk_lt (g:=gb130) (o:=.cells #[.int .i64 0,.bool false,.bool false] 62 (0,0)) (by (with_reducible repeat (first|refine blk_drewN ?_ _|refine blk_drew ?_|refine blk_alloc ?_ _));exact BK130.out)) : gb130 ≠ gb129))
   have n9_:=Aside0.mk ((by rw [hg];exact Nat.ne_of_gt (blk_lt (g:=gb130) (o:=.cells #[.int .i64 0,.bool false,.bool false] 62 (0,0)) (by (with_reducible repeat (first|refine blk_drewN ?_ _|refine blk_drew ?_|refine blk_alloc ?_ _));exact BK130.out)) : gb129 ≠ gb130))
   clear BK126
   clear BK130
   clear HB
   have BK126:=n0_
   have BK130:=n1_
   have HB:=n2_
   have BK129:=n3_
   have GW129:=n4_
   have GE129:=n5_
   have NB126_129:=n6_
   have NB129_126:=n7_
   have NB130_129:=n8_
   have NB129_130:=n9_
   clear n0_ n1_ n2_ n3_ n4_ n5_ n6_ n7_ n8_ n9_
   clear hb hbox hg
   refine hK.out _ _ ⟨(blk_cell BK126.out 0).trans rfl,(blk_cell BK126.out 1).trans rfl,(blk_cell BK126.out 2).trans rfl,((HB.out.cell (World.block_lt_of_cell? w _ hw127_0)).trans hw127_0),((HB.out.cell (World.block_lt_of_cell? w _ hw127_1)).trans hw127_1),((HB.out.cell (World.block_lt_of_cell? w _ hw127_2)).trans hw127_2),((HB.out.cell (World.block_lt_of_cell? w _ hw128_0)).trans hw128_0),((HB.out.cell (World.block_lt_of_cell? w _ hw128_1)).trans hw128_1),((HB.out.cell (World.block_lt_of_cell? w _ hw128_2)).trans hw128_2)⟩ (fun hHeld => ?_)
   clear hK K
   refine norm_ (a':=?_) ?_ ?_
   rotate_left
   ·show Act.put _ (some 6) _ = _
    simp only [Act.put,List.setIfInBounds_toArray,List.set_cons_zero,List.set_cons_succ,i64_w,i32_w]
    rfl
   exact norm_ (by simp only [putAll,Act.put,List.setIfInBounds_toArray,List.set_cons_zero,List.set_cons_succ]) (hCont (gb129,gb130) _ ⟨hHeld,(by (with_reducible repeat (first|refine blk_drewN ?_ _|refine blk_drew ?_|refine blk_alloc ?_ _));exact BK126.out),(by (with_reducible repeat (first|refine blk_drewN ?_ _|refine blk_drew ?_|refine blk_alloc ?_ _));exact BK129.out),(by (with_reducible repeat (first|refine blk_drewN ?_ _|refine blk_drew ?_|refine blk_alloc ?_ _));exact BK130.out),GW129.out,GE129.out,NB126_129.out,NB129_126.out,NB130_129.out,NB129_130.out,GW130.out,GE130.out,NB126_130.out,NB130_126.out,(by repeat (first|(with_reducible first|exact HB.out|apply below_alloc|apply pw_below_drewN|apply below_drew1|refine below_set ?_ GE126.out|refine below_set ?_ GE130.out|refine below_set ?_ GE129.out)|exact HB.out))⟩)
 rintro ⟨gb129,gb130⟩ w13 ⟨hS_,h0_,h1_,h2_,h3_,h4_,h5_,h6_,h7_,h8_,h9_,h10_,h11_,h12_,h13_⟩
 have n0_ : Aside0 (w13.heap[gb126]? = some (.cells #[.slice (some ad127) l2_0.length c2_0,.int .i64 a2_1,.int .i64 a2_2] 32 (0,0))):=⟨h0_⟩
 have n1_ : Aside0 (w13.heap[gb129]? = some (.cells #[.int .i64 0,.bool false,.bool false] 62 (0,0))):=⟨h1_⟩
 have n2_ : Aside0 (w13.heap[gb130]? = some (.cells #[.int .i64 0,.bool false,.bool false] 62 (0,0))):=⟨h2_⟩
 have n3_ : Aside0 (w.heap.size ≤ gb129):=⟨h3_⟩
 have n4_ : Aside0 (w.heap.size ≤ gb129):=⟨h4_⟩
 have n5_ : Aside0 (gb126 ≠ gb129):=⟨h5_⟩
 have n6_ : Aside0 (gb129 ≠ gb126):=⟨h6_⟩
 have n7_ : Aside0 (gb130 ≠ gb129):=⟨h7_⟩
 have n8_ : Aside0 (gb129 ≠ gb130):=⟨h8_⟩
 have n9_ : Aside0 (w.heap.size ≤ gb130):=⟨h9_⟩
 have n10_ : Aside0 (w.heap.size ≤ gb130):=⟨h10_⟩
 have n11_ : Aside0 (gb126 ≠ gb130):=⟨h11_⟩
 have n12_ : Aside0 (gb130 ≠ gb126):=⟨h12_⟩
 have n13_ : Aside0 (Below w.heap.size w w13):=⟨h13_⟩
 clear BK126
 clear HB
 clear h0_ h1_ h2_ h3_ h4_ h5_ h6_ h7_ h8_ h9_ h10_ h11_ h12_ h13_
 have BK126:=n0_
 have BK129:=n1_
 have BK130:=n2_
 have GW129:=n3_
 have GE129:=n4_
 have NB126_129:=n5_
 have NB129_126:=n6_
 have NB130_129:=n7_
 have NB129_130:=n8_
 have GW130:=n9_
 have GE130:=n10_
 have NB126_130:=n11_
 have NB130_126:=n12_
 have HB:=n13_
 clear n0_ n1_ n2_ n3_ n4_ n5_ n6_ n7_ n8_ n9_ n10_ n11_ n12_ n13_
 have hHeld : w13.cell? ⟨gb126,0,none⟩ = some (.slice (some ad127) l2_0.length c2_0)∧w13.cell? ⟨gb126,1,none⟩ = some (.int .i64 a2_1)∧w13.cell? ⟨gb126,2,none⟩ = some (.int .i64 a2_2)∧w13.cell? (ad127.add ((a0).toNat * 3)) = some (.int .i64 ((rd_T62 l2_0 a0).f0))∧w13.cell? ⟨(ad127.add ((a0).toNat * 3)).block,(ad127.add ((a0).toNat * 3)).off + 1,none⟩ = some (.bool ((rd_T62 l2_0 a0).f1))∧w13.cell? ⟨(ad127.add ((a0).toNat * 3)).block,(ad127.add ((a0).toNat * 3)).off + 2,none⟩ = some (.bool ((rd_T62 l2_0 a0).f2))∧w13.cell? (ad127.add ((a1).toNat * 3)) = some (.int .i64 ((rd_T62 l2_0 a1).f0))∧w13.cell? ⟨(ad127.add ((a1).toNat * 3)).block,(ad127.add ((a1).toNat * 3)).off + 1,none⟩ = some (.bool ((rd_T62 l2_0 a1).f1))∧w13.cell? ⟨(ad127.add ((a1).toNat * 3)).block,(ad127.add ((a1).toNat * 3)).off + 2,none⟩ = some (.bool ((rd_T62 l2_0 a1).f2)):=hS_
 refine norm_ (a':=?_) ?_ ?_
 rotate_left
 ·simp only [putAll,Act.put,List.setIfInBounds_toArray,List.set_cons_zero,List.set_cons_succ]
  rfl
 refine one_ (i:=12) (N:=none) #[true,true,true,true,true,true,true,true,true,true,true,true,true,false] rfl rfl (one_of HT_.out (by kernel_rfl)) (by decide) (fun K hK => ?_)
 have hs14 : w13.cell? ⟨gb129,0,none⟩ = some (.int .i64 0):=(blk_cell BK129.out 0).trans rfl
 have hfs14:=blk_frozen BK129.out 0
 have hns14_0:=NB126_129.out
 have hns14_2:=NB130_129.out
 have hms14_0:=NB129_126.out
 have hms14_2:=NB129_130.out
 have hs15 : w13.cell? ⟨gb129,1,none⟩ = some (.bool false):=(blk_cell BK129.out 1).trans rfl
 have hfs15:=blk_frozen BK129.out 1
 have hns15_0:=NB126_129.out
 have hns15_2:=NB130_129.out
 have hms15_0:=NB129_126.out
 have hms15_2:=NB129_130.out
 have hs16 : w13.cell? ⟨gb129,2,none⟩ = some (.bool false):=(blk_cell BK129.out 2).trans rfl
 have hfs16:=blk_frozen BK129.out 2
 have hns16_0:=NB126_129.out
 have hns16_2:=NB130_129.out
 have hms16_0:=NB129_126.out
 have hms16_2:=NB129_130.out
 refine skip_ (w1:=?_) (by rfl) rfl ?_ ?_
 rotate_left
 ·go_simp
  rfl
 refine hK.out _ _ ⟨((cell_far (p:=⟨gb129,_,none⟩) NB126_129.out _).trans (((cell_far (p:=⟨gb129,_,none⟩) NB126_129.out _).trans (((cell_far (p:=⟨gb129,_,none⟩) NB126_129.out _).trans (hHeld.1)))))),((cell_far (p:=⟨gb129,_,none⟩) NB126_129.out _).trans (((cell_far (p:=⟨gb129,_,none⟩) NB126_129.out _).trans (((cell_far (p:=⟨gb129,_,none⟩) NB126_129.out _).trans (hHeld.2.1)))))),((cell_far (p:=⟨gb129,_,none⟩) NB126_129.out _).trans (((cell_far (p:=⟨gb129,_,none⟩) NB126_129.out _).trans (((cell_far (p:=⟨gb129,_,none⟩) NB126_129.out _).trans (hHeld.2.2.1)))))),((cell_far (p:=⟨gb129,_,none⟩) (by first|exact Nat.ne_of_lt (Nat.lt_of_lt_of_le (by have:=World.block_lt_of_cell? _ _ hw127_0;first|rwa [add_block] at this|exact this) GW129.out)|(rw [add_block];exact Nat.ne_of_lt (Nat.lt_of_lt_of_le (by have:=World.block_lt_of_cell? _ _ hw127_0;first|rwa [add_block] at this|exact this) GW129.out))|(show (Addr.add _ _).block ≠ _;rw [add_block];exact Nat.ne_of_lt (Nat.lt_of_lt_of_le (by have:=World.block_lt_of_cell? _ _ hw127_0;first|rwa [add_block] at this|exact this) GW129.out))|(dsimp only;exact Nat.ne_of_lt (Nat.lt_of_lt_of_le (by have:=World.block_lt_of_cell? _ _ hw127_0;first|rwa [add_block] at this|exact this) GW129.out))) _).trans (((cell_far (p:=⟨gb129,_,none⟩) (by first|exact Nat.ne_of_lt (Nat.lt_of_lt_of_le (by have:=World.block_lt_of_cell? _ _ hw127_0;first|rwa [add_block] at this|exact this) GW129.out)|(rw [add_block];exact Nat.ne_of_lt (Nat.lt_of_lt_of_le (by have:=World.block_lt_of_cell? _ _ hw127_0;first|rwa [add_block] at this|exact this) GW129.out))|(show (Addr.add _ _).block ≠ _;rw [add_block];exact Nat.ne_of_lt (Nat.lt_of_lt_of_le (by have:=World.block_lt_of_cell? _ _ hw127_0;first|rwa [add_block] at this|exact this) GW129.out))|(dsimp only;exact Nat.ne_of_lt (Nat.lt_of_lt_of_le (by have:=World.block_lt_of_cell? _ _ hw127_0;first|rwa [add_block] at this|exact this) GW129.out))) _).trans (((cell_far (p:=⟨gb129,_,none⟩) (by first|exact Nat.ne_of_lt (Nat.lt_of_lt_of_le (by have:=World.block_lt_of_cell? _ _ hw127_0;first|rwa [add_block] at this|exact this) GW129.out)|(rw [add_block];exact Nat.ne_of_lt (Nat.lt_of_lt_of_le (by have:=World.block_lt_of_cell? _ _ hw127_0;first|rwa [add_block] at this|exact this) GW129.out))|(show (Addr.add _ _).block ≠ _;rw [add_block];exact Nat.ne_of_lt (Nat.lt_of_lt_of_le (by have:=World.block_lt_of_cell? _ _ hw127_0;first|rwa [add_block] at this|exact this) GW129.out))|(dsimp only;exact Nat.ne_of_lt (Nat.lt_of_lt_of_le (by have:=World.block_lt_of_cell? _ _ hw127_0;first|rwa [add_block] at this|exact this) GW129.out))) _).trans (hHeld.2.2.2.1)))))),((cell_far (p:=⟨gb129,_,none⟩) (by first|exact Nat.ne_of_lt (Nat.lt_of_lt_of_le (by have:=World.block_lt_of_cell? _ _ hw127_1;first|rwa [add_block] at this|exact this) GW129.out)|(rw [add_block];exact Nat.ne_of_lt (Nat.lt_of_lt_of_le (by have:=World.block_lt_of_cell? _ _ hw127_1;first|rwa [add_block] at this|exact this) GW129.out))|(show (Addr.add _ _).block ≠ _;rw [add_block];exact Nat.ne_of_lt (Nat.lt_of_lt_of_le (by have:=World.block_lt_of_cell? _ _ hw127_1;first|rwa [add_block] at this|exact this) GW129.out))|(dsimp only;exact Nat.ne_of_lt (Nat.lt_of_lt_of_le (by have:=World.block_lt_of_cell? _ _ hw127_1;first|rwa [add_block] at this|exact this) GW129.out))) _).trans (((cell_far (p:=⟨gb129,_,none⟩) (by first|exact Nat.ne_of_lt (Nat.lt_of_lt_of_le (by have:=World.block_lt_of_cell? _ _ hw127_1;first|rwa [add_block] at this|exact this) GW129.out)|(rw [add_block];exact Nat.ne_of_lt (Nat.lt_of_lt_of_le (by have:=World.block_lt_of_cell? _ _ hw127_1;first|rwa [add_block] at this|exact this) GW129.out))|(show (Addr.add _ _).block ≠ _;rw [add_block];exact Nat.ne_of_lt (Nat.lt_of_lt_of_le (by have:=World.block_lt_of_cell? _ _ hw127_1;first|rwa [add_block] at this|exact this) GW129.out))|(dsimp only;exact Nat.ne_of_lt (Nat.lt_of_lt_of_le (by have:=World.block_lt_of_cell? _ _ hw127_1;first|rwa [add_block] at this|exact this) GW129.out))) _).trans (((cell_far (p:=⟨gb129,_,none⟩) (by first|exact Nat.ne_of_lt (Nat.lt_of_lt_of_le (by have:=World.block_lt_of_cell? _ _ hw127_1;first|rwa [add_block] at this|exact this) GW129.out)|(rw [add_block];exact Nat.ne_of_lt (Nat.lt_of_lt_of_le (by have:=World.block_lt_of_cell? _ _ hw127_1;first|rwa [add_block] at this|exact this) GW129.out))|(show (Addr.add _ _).block ≠ _;rw [add_block];exact Nat.ne_of_lt (Nat.lt_of_lt_of_le (by have:=World.block_lt_of_cell? _ _ hw127_1;first|rwa [add_block] at this|exact this) GW129.out))|(dsimp only;exact Nat.ne_of_lt (Nat.lt_of_lt_of_le (by have:=World.block_lt_of_cell? _ _ hw127_1;first|rwa [add_block] at this|exact this) GW129.out))) _).trans (hHeld.2.2.2.2.1)))))),((cell_far (p:=⟨gb129,_,none⟩) (by first|exact Nat.ne_of_lt (Nat.lt_of_lt_of_le (by have:=World.block_lt_of_cell? _ _ hw127_2;first|rwa [add_block] at this|exact this) GW129.out)|(rw [add_block];exact Nat.ne_of_lt (Nat.lt_of_lt_of_le (by have:=World.block_lt_of_cell? _ _ hw127_2;first|rwa [add_block] at this|exact this) GW129.out))|(show (Addr.add _ _).block ≠ _;rw [add_block];exact Nat.ne_of_lt (Nat.lt_of_lt_of_le (by have:=World.block_lt_of_cell? _ _ hw127_2;first|rwa [add_block] at this|exact this) GW129.out))|(dsimp only;exact Nat.ne_of_lt (Nat.lt_of_lt_of_le (by have:=World.block_lt_of_cell? _ _ hw127_2;first|rwa [add_block] at this|exact this) GW129.out))) _).trans (((cell_far (p:=⟨gb129,_,none⟩) (by first|exact Nat.ne_of_lt (Nat.lt_of_lt_of_le (by have:=World.block_lt_of_cell? _ _ hw127_2;first|rwa [add_block] at this|exact this) GW129.out)|(rw [add_block];exact Nat.ne_of_lt (Nat.lt_of_lt_of_le (by have:=World.block_lt_of_cell? _ _ hw127_2;first|rwa [add_block] at this|exact this) GW129.out))|(show (Addr.add _ _).block ≠ _;rw [add_block];exact Nat.ne_of_lt (Nat.lt_of_lt_of_le (by have:=World.block_lt_of_cell? _ _ hw127_2;first|rwa [add_block] at this|exact this) GW129.out))|(dsimp only;exact Nat.ne_of_lt (Nat.lt_of_lt_of_le (by have:=World.block_lt_of_cell? _ _ hw127_2;first|rwa [add_block] at this|exact this) GW129.out))) _).trans (((cell_far (p:=⟨gb129,_,none⟩) (by first|exact Nat.ne_of_lt (Nat.lt_of_lt_of_le (by have:=World.block_lt_of_cell? _ _ hw127_2;first|rwa [add_block] at this|exact this) GW129.out)|(rw [add_block];exact Nat.ne_of_lt (Nat.lt_of_lt_of_le (by have:=World.block_lt_of_cell? _ _ hw127_2;first|rwa [add_block] at this|exact this) GW129.out))|(show (Addr.add _ _).block ≠ _;rw [add_block];exact Nat.ne_of_lt (Nat.lt_of_lt_of_le (by have:=World.block_lt_of_cell? _ _ hw127_2;first|rwa [add_block] at this|exact this) GW129.out))|(dsimp only;exact Nat.ne_of_lt (Nat.lt_of_lt_of_le (by have:=World.block_lt_of_cell? _ _ hw127_2;first|rwa [add_block] at this|exact this) GW129.out))) _).trans (hHeld.2.2.2.2.2.1)))))),((cell_far (p:=⟨gb129,_,none⟩) (by first|exact Nat.ne_of_lt (Nat.lt_of_lt_of_le (by have:=World.block_lt_of_cell? _ _ hw128_0;first|rwa [add_block] at this|exact this) GW129.out)|(rw [add_block];exact Nat.ne_of_lt (Nat.lt_of_lt_of_le (by have:=World.block_lt_of_cell? _ _ hw128_0;first|rwa [add_block] at this|exact this) GW129.out))|(show (Addr.add _ _).block ≠ _;rw [add_block];exact Nat.ne_of_lt (Nat.lt_of_lt_of_le (by have:=World.block_lt_of_cell? _ _ hw128_0;first|rwa [add_block] at this|exact this) GW129.out))|(dsimp only;exact Nat.ne_of_lt (Nat.lt_of_lt_of_le (by have:=World.block_lt_of_cell? _ _ hw128_0;first|rwa [add_block] at this|exact this) GW129.out))) _).trans (((cell_far (p:=⟨gb129,_,none⟩) (by first|exact Nat.ne_of_lt (Nat.lt_of_lt_of_le (by have:=World.block_lt_of_cell? _ _ hw128_0;first|rwa [add_block] at this|exact this) GW129.out)|(rw [add_block];exact Nat.ne_of_lt (Nat.lt_of_lt_of_le (by have:=World.block_lt_of_cell? _ _ hw128_0;first|rwa [add_block] at this|exact this) GW129.out))|(show (Addr.add _ _).block ≠ _;rw [add_block];exact Nat.ne_of_lt (Nat.lt_of_lt_of_le (by have:=World.block_lt_of_cell? _ _ hw128_0;first|rwa [add_block] at this|exact this) GW129.out))|(dsimp only;exact Nat.ne_of_lt (Nat.lt_of_lt_of_le (by have:=World.block_lt_of_cell? _ _ hw128_0;first|rwa [add_block] at this|exact this) GW129.out))) _).trans (((cell_far (p:=⟨gb129,_,none⟩) (by first|exact Nat.ne_of_lt (Nat.lt_of_lt_of_le (by have:=World.block_lt_of_cell? _ _ hw128_0;first|rwa [add_block] at this|exact this) GW129.out)|(rw [add_block];exact Nat.ne_of_lt (Nat.lt_of_lt_of_le (by have:=World.block_lt_of_cell? _ _ hw128_0;first|rwa [add_block] at this|exact this) GW129.out))|(show (Addr.add _ _).block ≠ _;rw [add_block];exact Nat.ne_of_lt (Nat.lt_of_lt_of_le (by have:=World.block_lt_of_cell? _ _ hw128_0;first|rwa [add_block] at this|exact this) GW129.out))|(dsimp only;exact Nat.ne_of_lt (Nat.lt_of_lt_of_le (by have:=World.block_lt_of_cell? _ _ hw128_0;first|rwa [add_block] at this|exact this) GW129.out))) _).trans (hHeld.2.2.2.2.2.2.1)))))),((cell_far (p:=⟨gb129,_,none⟩) (by first|exact Nat.ne_of_lt (Nat.lt_of_lt_of_le (by have:=World.block_lt_of_cell? _ _ hw128_1;first|rwa [add_block] at this|exact this) GW129.out)|(rw [add_block];exact Nat.ne_of_lt (Nat.lt_of_lt_of_le (by have:=World.block_lt_of_cell? _ _ hw128_1;first|rwa [add_block] at this|exact this) GW129.out))|(show (Addr.add _ _).block ≠ _;rw [add_block];exact Nat.ne_of_lt (Nat.lt_of_lt_of_le (by have:=World.block_lt_of_cell? _ _ hw128_1;first|rwa [add_block] at this|exact this) GW129.out))|(dsimp only;exact Nat.ne_of_lt (Nat.lt_of_lt_of_le (by have:=World.block_lt_of_cell? _ _ hw128_1;first|rwa [add_block] at this|exact this) GW129.out))) _).trans (((cell_far (p:=⟨gb129,_,none⟩) (by first|exact Nat.ne_of_lt (Nat.lt_of_lt_of_le (by have:=World.block_lt_of_cell? _ _ hw128_1;first|rwa [add_block] at this|exact this) GW129.out)|(rw [add_block];exact Nat.ne_of_lt (Nat.lt_of_lt_of_le (by have:=World.block_lt_of_cell? _ _ hw128_1;first|rwa [add_block] at this|exact this) GW129.out))|(show (Addr.add _ _).block ≠ _;rw [add_block];exact Nat.ne_of_lt (Nat.lt_of_lt_of_le (by have:=World.block_lt_of_cell? _ _ hw128_1;first|rwa [add_block] at this|exact this) GW129.out))|(dsimp only;exact Nat.ne_of_lt (Nat.lt_of_lt_of_le (by have:=World.block_lt_of_cell? _ _ hw128_1;first|rwa [add_block] at this|exact this) GW129.out))) _).trans (((cell_far (p:=⟨gb129,_,none⟩) (by first|exact Nat.ne_of_lt (Nat.lt_of_lt_of_le (by have:=World.block_lt_of_cell? _ _ hw128_1;first|rwa [add_block] at this|exact this) GW129.out)|(rw [add_block];exact Nat.ne_of_lt (Nat.lt_of_lt_of_le (by have:=World.block_lt_of_cell? _ _ hw128_1;first|rwa [add_block] at this|exact this) GW129.out))|(show (Addr.add _ _).block ≠ _;rw [add_block];exact Nat.ne_of_lt (Nat.lt_of_lt_of_le (by have:=World.block_lt_of_cell? _ _ hw128_1;first|rwa [add_block] at this|exact this) GW129.out))|(dsimp only;exact Nat.ne_of_lt (Nat.lt_of_lt_of_le (by have:=World.block_lt_of_cell? _ _ hw128_1;first|rwa [add_block] at this|exact this) GW129.out))) _).trans (hHeld.2.2.2.2.2.2.2.1)))))),((cell_far (p:=⟨gb129,_,none⟩) (by first|exact Nat.ne_of_lt (Nat.lt_of_lt_of_le (by have:=World.block_lt_of_cell? _ _ hw128_2;first|rwa [add_block] at this|exact this) GW129.out)|(rw [add_block];exact Nat.ne_of_lt (Nat.lt_of_lt_of_le (by have:=World.block_lt_of_cell? _ _ hw128_2;first|rwa [add_block] at this|exact this) GW129.out))|(show (Addr.add _ _).block ≠ _;rw [add_block];exact Nat.ne_of_lt (Nat.lt_of_lt_of_le (by have:=World.block_lt_of_cell? _ _ hw128_2;first|rwa [add_block] at this|exact this) GW129.out))|(dsimp only;exact Nat.ne_of_lt (Nat.lt_of_lt_of_le (by have:=World.block_lt_of_cell? _ _ hw128_2;first|rwa [add_block] at this|exact this) GW129.out))) _).trans (((cell_far (p:=⟨gb129,_,none⟩) (by first|exact Nat.ne_of_lt (Nat.lt_of_lt_of_le (by have:=World.block_lt_of_cell? _ _ hw128_2;first|rwa [add_block] at this|exact this) GW129.out)|(rw [add_block];exact Nat.ne_of_lt (Nat.lt_of_lt_of_le (by have:=World.block_lt_of_cell? _ _ hw128_2;first|rwa [add_block] at this|exact this) GW129.out))|(show (Addr.add _ _).block ≠ _;rw [add_block];exact Nat.ne_of_lt (Nat.lt_of_lt_of_le (by have:=World.block_lt_of_cell? _ _ hw128_2;first|rwa [add_block] at this|exact this) GW129.out))|(dsimp only;exact Nat.ne_of_lt (Nat.lt_of_lt_of_le (by have:=World.block_lt_of_cell? _ _ hw128_2;first|rwa [add_block] at this|exact this) GW129.out))) _).trans (((cell_far (p:=⟨gb129,_,none⟩) (by first|exact Nat.ne_of_lt (Nat.lt_of_lt_of_le (by have:=World.block_lt_of_cell? _ _ hw128_2;first|rwa [add_block] at this|exact this) GW129.out)|(rw [add_block];exact Nat.ne_of_lt (Nat.lt_of_lt_of_le (by have:=World.block_lt_of_cell? _ _ hw128_2;first|rwa [add_block] at this|exact this) GW129.out))|(show (Addr.add _ _).block ≠ _;rw [add_block];exact Nat.ne_of_lt (Nat.lt_of_lt_of_le (by have:=World.block_lt_of_cell? _ _ hw128_2;first|rwa [add_block] at this|exact this) GW129.out))|(dsimp only;exact Nat.ne_of_lt (Nat.lt_of_lt_of_le (by have:=World.block_lt_of_cell? _ _ hw128_2;first|rwa [add_block] at this|exact this) GW129.out))) _).trans (hHeld.2.2.2.2.2.2.2.2))))))⟩ (fun hHeld => ?_)
 clear hK K
 refine one_ (i:=13) (N:=none) #[true,true,true,true,true,true,true,true,true,true,true,true,true,true] rfl rfl (one_of HT_.out (by kernel_rfl)) (by decide) (fun K hK => ?_)
 have hs17 : w13.cell? ⟨gb130,0,none⟩ = some (.int .i64 0):=(blk_cell BK130.out 0).trans rfl
 have hfs17:=blk_frozen BK130.out 0
 have hns17_0:=NB126_130.out
 have hns17_1:=NB129_130.out
 have hms17_0:=NB130_126.out
 have hms17_1:=NB130_129.out
 have hs18 : w13.cell? ⟨gb130,1,none⟩ = some (.bool false):=(blk_cell BK130.out 1).trans rfl
 have hfs18:=blk_frozen BK130.out 1
 have hns18_0:=NB126_130.out
 have hns18_1:=NB129_130.out
 have hms18_0:=NB130_126.out
 have hms18_1:=NB130_129.out
 have hs19 : w13.cell? ⟨gb130,2,none⟩ = some (.bool false):=(blk_cell BK130.out 2).trans rfl
 have hfs19:=blk_frozen BK130.out 2
 have hns19_0:=NB126_130.out
 have hns19_1:=NB129_130.out
 have hms19_0:=NB130_126.out
 have hms19_1:=NB130_129.out
 refine skip_ (w1:=?_) (by rfl) rfl ?_ ?_
 rotate_left
 ·go_simp
  rfl
 refine hK.out _ _ ⟨((cell_far (p:=⟨gb130,_,none⟩) NB126_130.out _).trans (((cell_far (p:=⟨gb130,_,none⟩) NB126_130.out _).trans (((cell_far (p:=⟨gb130,_,none⟩) NB126_130.out _).trans (hHeld.1)))))),((cell_far (p:=⟨gb130,_,none⟩) NB126_130.out _).trans (((cell_far (p:=⟨gb130,_,none⟩) NB126_130.out _).trans (((cell_far (p:=⟨gb130,_,none⟩) NB126_130.out _).trans (hHeld.2.1)))))),((cell_far (p:=⟨gb130,_,none⟩) NB126_130.out _).trans (((cell_far (p:=⟨gb130,_,none⟩) NB126_130.out _).trans (((cell_far (p:=⟨gb130,_,none⟩) NB126_130.out _).trans (hHeld.2.2.1)))))),((cell_far (p:=⟨gb130,_,none⟩) (by first|exact Nat.ne_of_lt (Nat.lt_of_lt_of_le (by have:=World.block_lt_of_cell? _ _ hw127_0;first|rwa [add_block] at this|exact this) GW130.out)|(rw [add_block];exact Nat.ne_of_lt (Nat.lt_of_lt_of_le (by have:=World.block_lt_of_cell? _ _ hw127_0;first|rwa [add_block] at this|exact this) GW130.out))|(show (Addr.add _ _).block ≠ _;rw [add_block];exact Nat.ne_of_lt (Nat.lt_of_lt_of_le (by have:=World.block_lt_of_cell? _ _ hw127_0;first|rwa [add_block] at this|exact this) GW130.out))|(dsimp only;exact Nat.ne_of_lt (Nat.lt_of_lt_of_le (by have:=World.block_lt_of_cell? _ _ hw127_0;first|rwa [add_block] at this|exact this) GW130.out))) _).trans (((cell_far (p:=⟨gb130,_,none⟩) (by first|exact Nat.ne_of_lt (Nat.lt_of_lt_of_le (by have:=World.block_lt_of_cell? _ _ hw127_0;first|rwa [add_block] at this|exact this) GW130.out)|(rw [add_block];exact Nat.ne_of_lt (Nat.lt_of_lt_of_le (by have:=World.block_lt_of_cell? _ _ hw127_0;first|rwa [add_block] at this|exact this) GW130.out))|(show (Addr.add _ _).block ≠ _;rw [add_block];exact Nat.ne_of_lt (Nat.lt_of_lt_of_le (by have:=World.block_lt_of_cell? _ _ hw127_0;first|rwa [add_block] at this|exact this) GW130.out))|(dsimp only;exact Nat.ne_of_lt (Nat.lt_of_lt_of_le (by have:=World.block_lt_of_cell? _ _ hw127_0;first|rwa [add_block] at this|exact this) GW130.out))) _).trans (((cell_far (p:=⟨gb130,_,none⟩) (by first|exact Nat.ne_of_lt (Nat.lt_of_lt_of_le (by have:=World.block_lt_of_cell? _ _ hw127_0;first|rwa [add_block] at this|exact this) GW130.out)|(rw [add_block];exact Nat.ne_of_lt (Nat.lt_of_lt_of_le (by have:=World.block_lt_of_cell? _ _ hw127_0;first|rwa [add_block] at this|exact this) GW130.out))|(show (Addr.add _ _).block ≠ _;rw [add_block];exact Nat.ne_of_lt (Nat.lt_of_lt_of_le (by have:=World.block_lt_of_cell? _ _ hw127_0;first|rwa [add_block] at this|exact this) GW130.out))|(dsimp only;exact Nat.ne_of_lt (Nat.lt_of_lt_of_le (by have:=World.block_lt_of_cell? _ _ hw127_0;first|rwa [add_block] at this|exact this) GW130.out))) _).trans (hHeld.2.2.2.1)))))),((cell_far (p:=⟨gb130,_,none⟩) (by first|exact Nat.ne_of_lt (Nat.lt_of_lt_of_le (by have:=World.block_lt_of_cell? _ _ hw127_1;first|rwa [add_block] at this|exact this) GW130.out)|(rw [add_block];exact Nat.ne_of_lt (Nat.lt_of_lt_of_le (by have:=World.block_lt_of_cell? _ _ hw127_1;first|rwa [add_block] at this|exact this) GW130.out))|(show (Addr.add _ _).block ≠ _;rw [add_block];exact Nat.ne_of_lt (Nat.lt_of_lt_of_le (by have:=World.block_lt_of_cell? _ _ hw127_1;first|rwa [add_block] at this|exact this) GW130.out))|(dsimp only;exact Nat.ne_of_lt (Nat.lt_of_lt_of_le (by have:=World.block_lt_of_cell? _ _ hw127_1;first|rwa [add_block] at this|exact this) GW130.out))) _).trans (((cell_far (p:=⟨gb130,_,none⟩) (by first|exact Nat.ne_of_lt (Nat.lt_of_lt_of_le (by have:=World.block_lt_of_cell? _ _ hw127_1;first|rwa [add_block] at this|exact this) GW130.out)|(rw [add_block];exact Nat.ne_of_lt (Nat.lt_of_lt_of_le (by have:=World.block_lt_of_cell? _ _ hw127_1;first|rwa [add_block] at this|exact this) GW130.out))|(show (Addr.add _ _).block ≠ _;rw [add_block];exact Nat.ne_of_lt (Nat.lt_of_lt_of_le (by have:=World.block_lt_of_cell? _ _ hw127_1;first|rwa [add_block] at this|exact this) GW130.out))|(dsimp only;exact Nat.ne_of_lt (Nat.lt_of_lt_of_le (by have:=World.block_lt_of_cell? _ _ hw127_1;first|rwa [add_block] at this|exact this) GW130.out))) _).trans (((cell_far (p:=⟨gb130,_,none⟩) (by first|exact Nat.ne_of_lt (Nat.lt_of_lt_of_le (by have:=World.block_lt_of_cell? _ _ hw127_1;first|rwa [add_block] at this|exact this) GW130.out)|(rw [add_block];exact Nat.ne_of_lt (Nat.lt_of_lt_of_le (by have:=World.block_lt_of_cell? _ _ hw127_1;first|rwa [add_block] at this|exact this) GW130.out))|(show (Addr.add _ _).block ≠ _;rw [add_block];exact Nat.ne_of_lt (Nat.lt_of_lt_of_le (by have:=World.block_lt_of_cell? _ _ hw127_1;first|rwa [add_block] at this|exact this) GW130.out))|(dsimp only;exact Nat.ne_of_lt (Nat.lt_of_lt_of_le (by have:=World.block_lt_of_cell? _ _ hw127_1;first|rwa [add_block] at this|exact this) GW130.out))) _).trans (hHeld.2.2.2.2.1)))))),((cell_far (p:=⟨gb130,_,none⟩) (by first|exact Nat.ne_of_lt (Nat.lt_of_lt_of_le (by have:=World.block_lt_of_cell? _ _ hw127_2;first|rwa [add_block] at this|exact this) GW130.out)|(rw [add_block];exact Nat.ne_of_lt (Nat.lt_of_lt_of_le (by have:=World.block_lt_of_cell? _ _ hw127_2;first|rwa [add_block] at this|exact this) GW130.out))|(show (Addr.add _ _).block ≠ _;rw [add_block];exact Nat.ne_of_lt (Nat.lt_of_lt_of_le (by have:=World.block_lt_of_cell? _ _ hw127_2;first|rwa [add_block] at this|exact this) GW130.out))|(dsimp only;exact Nat.ne_of_lt (Nat.lt_of_lt_of_le (by have:=World.block_lt_of_cell? _ _ hw127_2;first|rwa [add_block] at this|exact this) GW130.out))) _).trans (((cell_far (p:=⟨gb130,_,none⟩) (by first|exact Nat.ne_of_lt (Nat.lt_of_lt_of_le (by have:=World.block_lt_of_cell? _ _ hw127_2;first|rwa [add_block] at this|exact this) GW130.out)|(rw [add_block];exact Nat.ne_of_lt (Nat.lt_of_lt_of_le (by have:=World.block_lt_of_cell? _ _ hw127_2;first|rwa [add_block] at this|exact this) GW130.out))|(show (Addr.add _ _).block ≠ _;rw [add_block];exact Nat.ne_of_lt (Nat.lt_of_lt_of_le (by have:=World.block_lt_of_cell? _ _ hw127_2;first|rwa [add_block] at this|exact this) GW130.out))|(dsimp only;exact Nat.ne_of_lt (Nat.lt_of_lt_of_le (by have:=World.block_lt_of_cell? _ _ hw127_2;first|rwa [add_block] at this|exact this) GW130.out))) _).trans (((cell_far (p:=⟨gb130,_,none⟩) (by first|exact Nat.ne_of_lt (Nat.lt_of_lt_of_le (by have:=World.block_lt_of_cell? _ _ hw127_2;first|rwa [add_block] at this|exact this) GW130.out)|(rw [add_block];exact Nat.ne_of_lt (Nat.lt_of_lt_of_le (by have:=World.block_lt_of_cell? _ _ hw127_2;first|rwa [add_block] at this|exact this) GW130.out))|(show (Addr.add _ _).block ≠ _;rw [add_block];exact Nat.ne_of_lt (Nat.lt_of_lt_of_le (by have:=World.block_lt_of_cell? _ _ hw127_2;first|rwa [add_block] at this|exact this) GW130.out))|(dsimp only;exact Nat.ne_of_lt (Nat.lt_of_lt_of_le (by have:=World.block_lt_of_cell? _ _ hw127_2;first|rwa [add_block] at this|exact this) GW130.out))) _).trans (hHeld.2.2.2.2.2.1)))))),((cell_far (p:=⟨gb130,_,none⟩) (by first|exact Nat.ne_of_lt (Nat.lt_of_lt_of_le (by have:=World.block_lt_of_cell? _ _ hw128_0;first|rwa [add_block] at this|exact this) GW130.out)|(rw [add_block];exact Nat.ne_of_lt (Nat.lt_of_lt_of_le (by have:=World.block_lt_of_cell? _ _ hw128_0;first|rwa [add_block] at this|exact this) GW130.out))|(show (Addr.add _ _).block ≠ _;rw [add_block];exact Nat.ne_of_lt (Nat.lt_of_lt_of_le (by have:=World.block_lt_of_cell? _ _ hw128_0;first|rwa [add_block] at this|exact this) GW130.out))|(dsimp only;exact Nat.ne_of_lt (Nat.lt_of_lt_of_le (by have:=World.block_lt_of_cell? _ _ hw128_0;first|rwa [add_block] at this|exact this) GW130.out))) _).trans (((cell_far (p:=⟨gb130,_,none⟩) (by first|exact Nat.ne_of_lt (Nat.lt_of_lt_of_le (by have:=World.block_lt_of_cell? _ _ hw128_0;first|rwa [add_block] at this|exact this) GW130.out)|(rw [add_block];exact Nat.ne_of_lt (Nat.lt_of_lt_of_le (by have:=World.block_lt_of_cell? _ _ hw128_0;first|rwa [add_block] at this|exact this) GW130.out))|(show (Addr.add _ _).block ≠ _;rw [add_block];exact Nat.ne_of_lt (Nat.lt_of_lt_of_le (by have:=World.block_lt_of_cell? _ _ hw128_0;first|rwa [add_block] at this|exact this) GW130.out))|(dsimp only;exact Nat.ne_of_lt (Nat.lt_of_lt_of_le (by have:=World.block_lt_of_cell? _ _ hw128_0;first|rwa [add_block] at this|exact this) GW130.out))) _).trans (((cell_far (p:=⟨gb130,_,none⟩) (by first|exact Nat.ne_of_lt (Nat.lt_of_lt_of_le (by have:=World.block_lt_of_cell? _ _ hw128_0;first|rwa [add_block] at this|exact this) GW130.out)|(rw [add_block];exact Nat.ne_of_lt (Nat.lt_of_lt_of_le (by have:=World.block_lt_of_cell? _ _ hw128_0;first|rwa [add_block] at this|exact this) GW130.out))|(show (Addr.add _ _).block ≠ _;rw [add_block];exact Nat.ne_of_lt (Nat.lt_of_lt_of_le (by have:=World.block_lt_of_cell? _ _ hw128_0;first|rwa [add_block] at this|exact this) GW130.out))|(dsimp only;exact Nat.ne_of_lt (Nat.lt_of_lt_of_le (by have:=World.block_lt_of_cell? _ _ hw128_0;first|rwa [add_block] at this|exact this) GW130.out))) _).trans (hHeld.2.2.2.2.2.2.1)))))),((cell_far (p:=⟨gb130,_,none⟩) (by first|exact Nat.ne_of_lt (Nat.lt_of_lt_of_le (by have:=World.block_lt_of_cell? _ _ hw128_1;first|rwa [add_block] at this|exact this) GW130.out)|(rw [add_block];exact Nat.ne_of_lt (Nat.lt_of_lt_of_le (by have:=World.block_lt_of_cell? _ _ hw128_1;first|rwa [add_block] at this|exact this) GW130.out))|(show (Addr.add _ _).block ≠ _;rw [add_block];exact Nat.ne_of_lt (Nat.lt_of_lt_of_le (by have:=World.block_lt_of_cell? _ _ hw128_1;first|rwa [add_block] at this|exact this) GW130.out))|(dsimp only;exact Nat.ne_of_lt (Nat.lt_of_lt_of_le (by have:=World.block_lt_of_cell? _ _ hw128_1;first|rwa [add_block] at this|exact this) GW130.out))) _).trans (((cell_far (p:=⟨gb130,_,none⟩) (by first|exact Nat.ne_of_lt (Nat.lt_of_lt_of_le (by have:=World.block_lt_of_cell? _ _ hw128_1;first|rwa [add_block] at this|exact this) GW130.out)|(rw [add_block];exact Nat.ne_of_lt (Nat.lt_of_lt_of_le (by have:=World.block_lt_of_cell? _ _ hw128_1;first|rwa [add_block] at this|exact this) GW130.out))|(show (Addr.add _ _).block ≠ _;rw [add_block];exact Nat.ne_of_lt (Nat.lt_of_lt_of_le (by have:=World.block_lt_of_cell? _ _ hw128_1;first|rwa [add_block] at this|exact this) GW130.out))|(dsimp only;exact Nat.ne_of_lt (Nat.lt_of_lt_of_le (by have:=World.block_lt_of_cell? _ _ hw128_1;first|rwa [add_block] at this|exact this) GW130.out))) _).trans (((cell_far (p:=⟨gb130,_,none⟩) (by first|exact Nat.ne_of_lt (Nat.lt_of_lt_of_le (by have:=World.block_lt_of_cell? _ _ hw128_1;first|rwa [add_block] at this|exact this) GW130.out)|(rw [add_block];exact Nat.ne_of_lt (Nat.lt_of_lt_of_le (by have:=World.block_lt_of_cell? _ _ hw128_1;first|rwa [add_block] at this|exact this) GW130.out))|(show (Addr.add _ _).block ≠ _;rw [add_block];exact Nat.ne_of_lt (Nat.lt_of_lt_of_le (by have:=World.block_lt_of_cell? _ _ hw128_1;first|rwa [add_block] at this|exact this) GW130.out))|(dsimp only;exact Nat.ne_of_lt (Nat.lt_of_lt_of_le (by have:=World.block_lt_of_cell? _ _ hw128_1;first|rwa [add_block] at this|exact this) GW130.out))) _).trans (hHeld.2.2.2.2.2.2.2.1)))))),((cell_far (p:=⟨gb130,_,none⟩) (by first|exact Nat.ne_of_lt (Nat.lt_of_lt_of_le (by have:=World.block_lt_of_cell? _ _ hw128_2;first|rwa [add_block] at this|exact this) GW130.out)|(rw [add_block];exact Nat.ne_of_lt (Nat.lt_of_lt_of_le (by have:=World.block_lt_of_cell? _ _ hw128_2;first|rwa [add_block] at this|exact this) GW130.out))|(show (Addr.add _ _).block ≠ _;rw [add_block];exact Nat.ne_of_lt (Nat.lt_of_lt_of_le (by have:=World.block_lt_of_cell? _ _ hw128_2;first|rwa [add_block] at this|exact this) GW130.out))|(dsimp only;exact Nat.ne_of_lt (Nat.lt_of_lt_of_le (by have:=World.block_lt_of_cell? _ _ hw128_2;first|rwa [add_block] at this|exact this) GW130.out))) _).trans (((cell_far (p:=⟨gb130,_,none⟩) (by first|exact Nat.ne_of_lt (Nat.lt_of_lt_of_le (by have:=World.block_lt_of_cell? _ _ hw128_2;first|rwa [add_block] at this|exact this) GW130.out)|(rw [add_block];exact Nat.ne_of_lt (Nat.lt_of_lt_of_le (by have:=World.block_lt_of_cell? _ _ hw128_2;first|rwa [add_block] at this|exact this) GW130.out))|(show (Addr.add _ _).block ≠ _;rw [add_block];exact Nat.ne_of_lt (Nat.lt_of_lt_of_le (by have:=World.block_lt_of_cell? _ _ hw128_2;first|rwa [add_block] at this|exact this) GW130.out))|(dsimp only;exact Nat.ne_of_lt (Nat.lt_of_lt_of_le (by have:=World.block_lt_of_cell? _ _ hw128_2;first|rwa [add_block] at this|exact this) GW130.out))) _).trans (((cell_far (p:=⟨gb130,_,none⟩) (by first|exact Nat.ne_of_lt (Nat.lt_of_lt_of_le (by have:=World.block_lt_of_cell? _ _ hw128_2;first|rwa [add_block] at this|exact this) GW130.out)|(rw [add_block];exact Nat.ne_of_lt (Nat.lt_of_lt_of_le (by have:=World.block_lt_of_cell? _ _ hw128_2;first|rwa [add_block] at this|exact this) GW130.out))|(show (Addr.add _ _).block ≠ _;rw [add_block];exact Nat.ne_of_lt (Nat.lt_of_lt_of_le (by have:=World.block_lt_of_cell? _ _ hw128_2;first|rwa [add_block] at this|exact this) GW130.out))|(dsimp only;exact Nat.ne_of_lt (Nat.lt_of_lt_of_le (by have:=World.block_lt_of_cell? _ _ hw128_2;first|rwa [add_block] at this|exact this) GW130.out))) _).trans (hHeld.2.2.2.2.2.2.2.2))))))⟩ (fun hHeld => ?_)
 clear hK K
 refine done_ (done_of HT_.out (by kernel_rfl)) ?_
 go_upto_region 2 with (fail)
 go_cut [18] (fun v18 wc => ∃ (kq : Nat) (x18_7 : Bool),v18 = .bool x18_7∧Aside0 (leadlag_Order_1.j0 kq x18_7 ((rd_T62 l2_0 a0).f0) ((rd_T62 l2_0 a0).f1) ((rd_T62 l2_0 a0).f2) ((rd_T62 l2_0 a1).f0) ((rd_T62 l2_0 a1).f1) ((rd_T62 l2_0 a1).f2) = some r)∧Aside0 (kq ≤ k)∧Aside0 (wc.heap[gb126]? = some (.cells #[(.slice (some ad127) l2_0.length c2_0),.int .i64 a2_1,.int .i64 a2_2] 32 (0,0)))∧Aside0 (wc.heap[gb129]? = some (.cells #[.int .i64 ((rd_T62 l2_0 a0).f0),.bool ((rd_T62 l2_0 a0).f1),.bool ((rd_T62 l2_0 a0).f2)] 62 (0,0)))∧Aside0 (wc.heap[gb130]? = some (.cells #[.int .i64 ((rd_T62 l2_0 a1).f0),.bool ((rd_T62 l2_0 a1).f1),.bool ((rd_T62 l2_0 a1).f2)] 62 (0,0)))∧Aside0 (Below w.heap.size w wc))
 case first =>
  have H:=HC8.out
  clear HC8
  obtain ⟨bq20,hbq20⟩ : ∃ b_ : Bool,b_ = ((rd_T62 l2_0 a0).f2):=⟨_,rfl⟩
  replace H : (if bq20 = true then (leadlag_Order_1.j0 k ((rd_T62 l2_0 a1).f2) ((rd_T62 l2_0 a0).f0) ((rd_T62 l2_0 a0).f1) bq20 ((rd_T62 l2_0 a1).f0) ((rd_T62 l2_0 a1).f1) ((rd_T62 l2_0 a1).f2)) else (leadlag_Order_1.j0 k false ((rd_T62 l2_0 a0).f0) ((rd_T62 l2_0 a0).f1) bq20 ((rd_T62 l2_0 a1).f0) ((rd_T62 l2_0 a1).f1) ((rd_T62 l2_0 a1).f2))) = some r:=by rw [← hbq20] at H;exact H
  have Nbq20:=Aside0.mk hbq20
  clear hbq20
  (try rw [← Nbq20.out])
  by_cases c21 : bq20 = true
  rotate_left
  ·replace c21:=Bool.eq_false_iff.mpr c21
   subst c21
   have H1 : (leadlag_Order_1.j0 k false ((rd_T62 l2_0 a0).f0) ((rd_T62 l2_0 a0).f1) false ((rd_T62 l2_0 a1).f0) ((rd_T62 l2_0 a1).f1) ((rd_T62 l2_0 a1).f2)) = some r:=by rw [if_neg (show ¬ (false = true) by decide)] at H;exact H
   clear H
   have H:=H1
   clear H1
   have H':=Aside0.mk H
   clear H
   have hnb27:=NB129_126.out
   have hnc27:=NB126_129.out
   have hnb28:=NB129_130.out
   have hnc28:=NB130_129.out
   have hcz29_0 : w13.cell? ⟨gb129,0,none⟩ = some (.int .i64 0):=(blk_cell BK129.out 0).trans rfl
   have hcz29_1 : w13.cell? ⟨gb129,1,none⟩ = some (.bool false):=(blk_cell BK129.out 1).trans rfl
   have hcz29_2 : w13.cell? ⟨gb129,2,none⟩ = some (.bool false):=(blk_cell BK129.out 2).trans rfl
   have hfz29_0:=blk_frozen BK129.out 0
   have hfz29_1:=blk_frozen BK129.out 1
   have hfz29_2:=blk_frozen BK129.out 2
   go_wp2
   go_meet
   case rel => rw [← Nbq20.out];exact ⟨_,(false),(by first|rfl|(simp;done)|(simp [*];done)),H',⟨by first|omega|exact Nat.le_refl _⟩,⟨by (with_reducible repeat (first|refine blk_drewN ?_ _|refine blk_drew ?_|refine blk_alloc ?_ _));refine blk_far ?_ NB126_130.out _;(with_reducible repeat (first|refine blk_drewN ?_ _|refine blk_drew ?_|refine blk_alloc ?_ _));refine blk_far ?_ NB126_130.out _;(with_reducible repeat (first|refine blk_drewN ?_ _|refine blk_drew ?_|refine blk_alloc ?_ _));refine blk_far ?_ NB126_130.out _;(with_reducible repeat (first|refine blk_drewN ?_ _|refine blk_drew ?_|refine blk_alloc ?_ _));refine blk_far ?_ NB126_129.out _;(with_reducible repeat (first|refine blk_drewN ?_ _|refine blk_drew ?_|refine blk_alloc ?_ _));refine blk_far ?_ NB126_129.out _;(with_reducible repeat (first|refine blk_drewN ?_ _|refine blk_drew ?_|refine blk_alloc ?_ _));refine blk_far ?_ NB126_129.out _;(with_reducible repeat (first|refine blk_drewN ?_ _|refine blk_drew ?_|refine blk_alloc ?_ _));exact BK126.out⟩,⟨by (with_reducible repeat (first|refine blk_drewN ?_ _|refine blk_drew ?_|refine blk_alloc ?_ _));refine blk_far ?_ NB129_130.out _;(with_reducible repeat (first|refine blk_drewN ?_ _|refine blk_drew ?_|refine blk_alloc ?_ _));refine blk_far ?_ NB129_130.out _;(with_reducible repeat (first|refine blk_drewN ?_ _|refine blk_drew ?_|refine blk_alloc ?_ _));refine blk_far ?_ NB129_130.out _;(with_reducible repeat (first|refine blk_drewN ?_ _|refine blk_drew ?_|refine blk_alloc ?_ _));refine blk_put (cs:=#[.int .i64 ((rd_T62 l2_0 a0).f0),.bool ((rd_T62 l2_0 a0).f1),.bool false]) ?_ 2 _ rfl;(with_reducible repeat (first|refine blk_drewN ?_ _|refine blk_drew ?_|refine blk_alloc ?_ _));refine blk_put (cs:=#[.int .i64 ((rd_T62 l2_0 a0).f0),.bool false,.bool false]) ?_ 1 _ rfl;(with_reducible repeat (first|refine blk_drewN ?_ _|refine blk_drew ?_|refine blk_alloc ?_ _));refine blk_put (cs:=#[.int .i64 0,.bool false,.bool false]) ?_ 0 _ rfl;(with_reducible repeat (first|refine blk_drewN ?_ _|refine blk_drew ?_|refine blk_alloc ?_ _));exact BK129.out⟩,⟨by (with_reducible repeat (first|refine blk_drewN ?_ _|refine blk_drew ?_|refine blk_alloc ?_ _));refine blk_put (cs:=#[.int .i64 ((rd_T62 l2_0 a1).f0),.bool ((rd_T62 l2_0 a1).f1),.bool false]) ?_ 2 _ rfl;(with_reducible repeat (first|refine blk_drewN ?_ _|refine blk_drew ?_|refine blk_alloc ?_ _));refine blk_put (cs:=#[.int .i64 ((rd_T62 l2_0 a1).f0),.bool false,.bool false]) ?_ 1 _ rfl;(with_reducible repeat (first|refine blk_drewN ?_ _|refine blk_drew ?_|refine blk_alloc ?_ _));refine blk_put (cs:=#[.int .i64 0,.bool false,.bool false]) ?_ 0 _ rfl;(with_reducible repeat (first|refine blk_drewN ?_ _|refine blk_drew ?_|refine blk_alloc ?_ _));refine blk_far ?_ NB130_129.out _;(with_reducible repeat (first|refine blk_drewN ?_ _|refine blk_drew ?_|refine blk_alloc ?_ _));refine blk_far ?_ NB130_129.out _;(with_reducible repeat (first|refine blk_drewN ?_ _|refine blk_drew ?_|refine blk_alloc ?_ _));refine blk_far ?_ NB130_129.out _;(with_reducible repeat (first|refine blk_drewN ?_ _|refine blk_drew ?_|refine blk_alloc ?_ _));exact BK130.out⟩,⟨by repeat (first|(with_reducible first|exact HB.out|apply below_alloc|apply pw_below_drewN|apply below_drew1|refine below_set ?_ GE126.out|refine below_set ?_ GE129.out|refine below_set ?_ GE130.out)|exact HB.out)⟩⟩
  subst c21
  have H1 : (leadlag_Order_1.j0 k ((rd_T62 l2_0 a1).f2) ((rd_T62 l2_0 a0).f0) ((rd_T62 l2_0 a0).f1) true ((rd_T62 l2_0 a1).f0) ((rd_T62 l2_0 a1).f1) ((rd_T62 l2_0 a1).f2)) = some r:=by rw [if_pos rfl] at H;exact H
  clear H
  have H:=H1
  clear H1
  have H':=Aside0.mk H
  clear H
  have hnb22:=NB129_126.out
  have hnc22:=NB126_129.out
  have hnb23:=NB129_130.out
  have hnc23:=NB130_129.out
  have hcz24_0 : w13.cell? ⟨gb129,0,none⟩ = some (.int .i64 0):=(blk_cell BK129.out 0).trans rfl
  have hcz24_1 : w13.cell? ⟨gb129,1,none⟩ = some (.bool false):=(blk_cell BK129.out 1).trans rfl
  have hcz24_2 : w13.cell? ⟨gb129,2,none⟩ = some (.bool false):=(blk_cell BK129.out 2).trans rfl
  have hfz24_0:=blk_frozen BK129.out 0
  have hfz24_1:=blk_frozen BK129.out 1
  have hfz24_2:=blk_frozen BK129.out 2
  have hnb25:=NB130_126.out
  have hnc25:=NB126_130.out
  have hcz26_0 : w13.cell? ⟨gb130,0,none⟩ = some (.int .i64 0):=(blk_cell BK130.out 0).trans rfl
  have hcz26_1 : w13.cell? ⟨gb130,1,none⟩ = some (.bool false):=(blk_cell BK130.out 1).trans rfl
  have hcz26_2 : w13.cell? ⟨gb130,2,none⟩ = some (.bool false):=(blk_cell BK130.out 2).trans rfl
  have hfz26_0:=blk_frozen BK130.out 0
  have hfz26_1:=blk_frozen BK130.out 1
  have hfz26_2:=blk_frozen BK130.out 2
  go_wp2
  go_meet
  case rel => rw [← Nbq20.out];exact ⟨_,((rd_T62 l2_0 a1).f2),(by first|rfl|(simp;done)|(simp [*];done)),H',⟨by first|omega|exact Nat.le_refl _⟩,⟨by (with_reducible repeat (first|refine blk_drewN ?_ _|refine blk_drew ?_|refine blk_alloc ?_ _));refine blk_far ?_ NB126_130.out _;(with_reducible repeat (first|refine blk_drewN ?_ _|refine blk_drew ?_|refine blk_alloc ?_ _));refine blk_far ?_ NB126_130.out _;(with_reducible repeat (first|refine blk_drewN ?_ _|refine blk_drew ?_|refine blk_alloc ?_ _));refine blk_far ?_ NB126_130.out _;(with_reducible repeat (first|refine blk_drewN ?_ _|refine blk_drew ?_|refine blk_alloc ?_ _));refine blk_far ?_ NB126_129.out _;(with_reducible repeat (first|refine blk_drewN ?_ _|refine blk_drew ?_|refine blk_alloc ?_ _));refine blk_far ?_ NB126_129.out _;(with_reducible repeat (first|refine blk_drewN ?_ _|refine blk_drew ?_|refine blk_alloc ?_ _));refine blk_far ?_ NB126_129.out _;(with_reducible repeat (first|refine blk_drewN ?_ _|refine blk_drew ?_|refine blk_alloc ?_ _));exact BK126.out⟩,⟨by (with_reducible repeat (first|refine blk_drewN ?_ _|refine blk_drew ?_|refine blk_alloc ?_ _));refine blk_far ?_ NB129_130.out _;(with_reducible repeat (first|refine blk_drewN ?_ _|refine blk_drew ?_|refine blk_alloc ?_ _));refine blk_far ?_ NB129_130.out _;(with_reducible repeat (first|refine blk_drewN ?_ _|refine blk_drew ?_|refine blk_alloc ?_ _));refine blk_far ?_ NB129_130.out _;(with_reducible repeat (first|refine blk_drewN ?_ _|refine blk_drew ?_|refine blk_alloc ?_ _));refine blk_put (cs:=#[.int .i64 ((rd_T62 l2_0 a0).f0),.bool ((rd_T62 l2_0 a0).f1),.bool false]) ?_ 2 _ rfl;(with_reducible repeat (first|refine blk_drewN ?_ _|refine blk_drew ?_|refine blk_alloc ?_ _));refine blk_put (cs:=#[.int .i64 ((rd_T62 l2_0 a0).f0),.bool false,.bool false]) ?_ 1 _ rfl;(with_reducible repeat (first|refine blk_drewN ?_ _|refine blk_drew ?_|refine blk_alloc ?_ _));refine blk_put (cs:=#[.int .i64 0,.bool false,.bool false]) ?_ 0 _ rfl;(with_reducible repeat (first|refine blk_drewN ?_ _|refine blk_drew ?_|refine blk_alloc ?_ _));exact BK129.out⟩,⟨by (with_reducible repeat (first|refine blk_drewN ?_ _|refine blk_drew ?_|refine blk_alloc ?_ _));refine blk_put (cs:=#[.int .i64 ((rd_T62 l2_0 a1).f0),.bool ((rd_T62 l2_0 a1).f1),.bool false]) ?_ 2 _ rfl;(with_reducible repeat (first|refine blk_drewN ?_ _|refine blk_drew ?_|refine blk_alloc ?_ _));refine blk_put (cs:=#[.int .i64 ((rd_T62 l2_0 a1).f0),.bool false,.bool false]) ?_ 1 _ rfl;(with_reducible repeat (first|refine blk_drewN ?_ _|refine blk_drew ?_|refine blk_alloc ?_ _));refine blk_put (cs:=#[.int .i64 0,.bool false,.bool false]) ?_ 0 _ rfl;(with_reducible repeat (first|refine blk_drewN ?_ _|refine blk_drew ?_|refine blk_alloc ?_ _));refine blk_far ?_ NB130_129.out _;(with_reducible repeat (first|refine blk_drewN ?_ _|refine blk_drew ?_|refine blk_alloc ?_ _));refine blk_far ?_ NB130_129.out _;(with_reducible repeat (first|refine blk_drewN ?_ _|refine blk_drew ?_|refine blk_alloc ?_ _));refine blk_far ?_ NB130_129.out _;(with_reducible repeat (first|refine blk_drewN ?_ _|refine blk_drew ?_|refine blk_alloc ?_ _));exact BK130.out⟩,⟨by repeat (first|(with_reducible first|exact HB.out|apply below_alloc|apply pw_below_drewN|apply below_drew1|refine below_set ?_ GE126.out|refine below_set ?_ GE129.out|refine below_set ?_ GE130.out)|exact HB.out)⟩⟩
 case rest =>
  clear HC8
  (try clear p1);(try clear q1);(try clear hx1);(try clear c2);(try clear p2);(try clear q2);(try clear c3);(try clear c4);(try clear c4b0);(try clear c5);(try clear c5b0);(try clear c6);(try clear c6b0);(try clear c7);(try clear c7b0);(try clear p12);(try clear q12);(try clear hx12);(try clear q20);(try clear c21);(try clear c22);(try clear c23);(try clear c25);(try clear c27);(try clear c28);(try clear hcz24_0);(try clear hcz24_1);(try clear hcz24_2);(try clear hcz26_0);(try clear hcz26_1);(try clear hcz26_2);(try clear hcz29_0);(try clear hcz29_1);(try clear hcz29_2);(try clear hfz24_0);(try clear hfz24_1);(try clear hfz24_2);(try clear hfz26_0);(try clear hfz26_1);(try clear hfz26_2);(try clear hfz29_0);(try clear hfz29_1);(try clear hfz29_2);(try clear hx127_0);(try clear hx127_1);(try clear hx127_2);(try clear hx128_0);(try clear hx128_1);(try clear hx128_2);(try clear p127);(try clear p128);(try clear q127);(try clear q128)
  obtain ⟨kq,x18_7,rfl,HA,HJ7,BK126,BK129,BK130,HB⟩:=hcut
  cases kq with
  | zero => exact absurd HA.out (by simp [leadlag_Order_1.j0])
  | succ kj7 =>
   have H:=HA.out
   clear HA
   simp only [leadlag_Order_1.j0] at H
   by_cases c30 : x18_7 = true
   ·subst c30
    have H1 : (some 0) = some r:=by rw [if_pos rfl] at H;exact H
    clear H
    have H:=H1
    clear H1
    obtain rfl:=Option.some.inj H
    go_wp2
    go_ret
    exact ⟨by first|rfl|(simp [errW_none,errW_some] <;> rfl)|(simp [*,errW_none,errW_some] <;> rfl),by repeat (first|(with_reducible first|exact HB.out|apply below_alloc|apply pw_below_drewN|apply below_drew1|refine below_set ?_ GE126.out|refine below_set ?_ GE129.out|refine below_set ?_ GE130.out)|exact HB.out)⟩
   replace c30:=Bool.eq_false_iff.mpr c30
   subst c30
   have H1 : (if ((rd_T62 l2_0 a0).f2) = true then (some 1) else (if ((rd_T62 l2_0 a1).f2) = true then (some (-1)) else ((cmp_Compare_int.f ((rd_T62 l2_0 a0).f0) ((rd_T62 l2_0 a1).f0)).bind fun t131 => (some t131)))) = some r:=by rw [if_neg (show ¬ (false = true) by decide)] at H;exact H
   clear H
   have H:=H1
   clear H1
   by_cases c31 : ((rd_T62 l2_0 a0).f2) = true
   ·rw [if_pos c31] at H
    have c31b0 : ((rd_T62 l2_0 a0).f2) = true:=c31
    clear c31
    obtain rfl:=Option.some.inj H
    have hnb32:=NB129_126.out
    have hnc32:=NB126_129.out
    have hnb33:=NB129_130.out
    have hnc33:=NB130_129.out
    have hcz34_0 : wc.cell? ⟨gb129,0,none⟩ = some (.int .i64 ((rd_T62 l2_0 a0).f0)):=(blk_cell BK129.out 0).trans rfl
    have hcz34_1 : wc.cell? ⟨gb129,1,none⟩ = some (.bool ((rd_T62 l2_0 a0).f1)):=(blk_cell BK129.out 1).trans rfl
    have hcz34_2 : wc.cell? ⟨gb129,2,none⟩ = some (.bool ((rd_T62 l2_0 a0).f2)):=(blk_cell BK129.out 2).trans rfl
    have hfz34_0:=blk_frozen BK129.out 0
    have hfz34_1:=blk_frozen BK129.out 1
    have hfz34_2:=blk_frozen BK129.out 2
    go_wp2
    go_ret
    exact ⟨by first|rfl|(simp [errW_none,errW_some] <;> rfl)|(simp [*,errW_none,errW_some] <;> rfl),by repeat (first|(with_reducible first|exact HB.out|apply below_alloc|apply pw_below_drewN|apply below_drew1|refine below_set ?_ GE126.out|refine below_set ?_ GE129.out|refine below_set ?_ GE130.out)|exact HB.out)⟩
   rw [if_neg c31] at H
   have c31b0 : ((rd_T62 l2_0 a0).f2) = false:=by simpa using c31
   clear c31
   by_cases c35 : ((rd_T62 l2_0 a1).f2) = true
   ·rw [if_pos c35] at H
    have c35b0 : ((rd_T62 l2_0 a1).f2) = true:=c35
    clear c35
    obtain rfl:=Option.some.inj H
    have hnb36:=NB129_126.out
    have hnc36:=NB126_129.out
    have hnb37:=NB129_130.out
    have hnc37:=NB130_129.out
    have hcz38_0 : wc.cell? ⟨gb129,0,none⟩ = some (.int .i64 ((rd_T62 l2_0 a0).f0)):=(blk_cell BK129.out 0).trans rfl
    have hcz38_1 : wc.cell? ⟨gb129,1,none⟩ = some (.bool ((rd_T62 l2_0 a0).f1)):=(blk_cell BK129.out 1).trans rfl
    have hcz38_2 : wc.cell? ⟨gb129,2,none⟩ = some (.bool ((rd_T62 l2_0 a0).f2)):=(blk_cell BK129.out 2).trans rfl
    have hfz38_0:=blk_frozen BK129.out 0
    have hfz38_1:=blk_frozen BK129.out 1
    have hfz38_2:=blk_frozen BK129.out 2
    have hnb39:=NB130_126.out
    have hnc39:=NB126_130.out
    have hcz40_0 : wc.cell? ⟨gb130,0,none⟩ = some (.int .i64 ((rd_T62 l2_0 a1).f0)):=(blk_cell BK130.out 0).trans rfl
    have hcz40_1 : wc.cell? ⟨gb130,1,none⟩ = some (.bool ((rd_T62 l2_0 a1).f1)):=(blk_cell BK130.out 1).trans rfl
    have hcz40_2 : wc.cell? ⟨gb130,2,none⟩ = some (.bool ((rd_T62 l2_0 a1).f2)):=(blk_cell BK130.out 2).trans rfl
    have hfz40_0:=blk_frozen BK130.out 0
    have hfz40_1:=blk_frozen BK130.out 1
    have hfz40_2:=blk_frozen BK130.out 2
    go_wp2
    go_ret
    exact ⟨by first|rfl|(simp [errW_none,errW_some] <;> rfl)|(simp [*,errW_none,errW_some] <;> rfl),by repeat (first|(with_reducible first|exact HB.out|apply below_alloc|apply pw_below_drewN|apply below_drew1|refine below_set ?_ GE126.out|refine below_set ?_ GE129.out|refine below_set ?_ GE130.out)|exact HB.out)⟩
   rw [if_neg c35] at H
   have c35b0 : ((rd_T62 l2_0 a1).f2) = false:=by simpa using c35
   clear c35
   replace H:=Option.bind_eq_some_iff.mp H
   obtain ⟨t131,A410,H⟩:=H
   replace H : (some t131) = some r:=H
   have A41:=Aside0.mk A410
   clear A410
   obtain rfl:=Option.some.inj H
   have hnb42:=NB129_126.out
   have hnc42:=NB126_129.out
   have hnb43:=NB129_130.out
   have hnc43:=NB130_129.out
   have hcz44_0 : wc.cell? ⟨gb129,0,none⟩ = some (.int .i64 ((rd_T62 l2_0 a0).f0)):=(blk_cell BK129.out 0).trans rfl
   have hcz44_1 : wc.cell? ⟨gb129,1,none⟩ = some (.bool ((rd_T62 l2_0 a0).f1)):=(blk_cell BK129.out 1).trans rfl
   have hcz44_2 : wc.cell? ⟨gb129,2,none⟩ = some (.bool ((rd_T62 l2_0 a0).f2)):=(blk_cell BK129.out 2).trans rfl
   have hfz44_0:=blk_frozen BK129.out 0
   have hfz44_1:=blk_frozen BK129.out 1
   have hfz44_2:=blk_frozen BK129.out 2
   have hnb45:=NB130_126.out
   have hnc45:=NB126_130.out
   have hcz46_0 : wc.cell? ⟨gb130,0,none⟩ = some (.int .i64 ((rd_T62 l2_0 a1).f0)):=(blk_cell BK130.out 0).trans rfl
   have hcz46_1 : wc.cell? ⟨gb130,1,none⟩ = some (.bool ((rd_T62 l2_0 a1).f1)):=(blk_cell BK130.out 1).trans rfl
   have hcz46_2 : wc.cell? ⟨gb130,2,none⟩ = some (.bool ((rd_T62 l2_0 a1).f2)):=(blk_cell BK130.out 2).trans rfl
   have hfz46_0:=blk_frozen BK130.out 0
   have hfz46_1:=blk_frozen BK130.out 1
   have hfz46_2:=blk_frozen BK130.out 2
   go_wp2_with (first|((with_reducible refine gate_callee (f:=37) rfl ?_);refine goesL_ (some 35) rfl rfl Try.func37 (by kernel_rfl) rfl #[.int .i64 ((rd_T62 l2_0 a0).f0),.int .i64 ((rd_T62 l2_0 a1).f0)] rfl (by (try simp only [List.map_toArray,List.map_cons,List.map_nil]);first|done|rfl|(simp only [List.length_drop,List.length_take];rfl)) ?_;(with_reducible refine (cmp_Compare_int.calls ((rd_T62 l2_0 a0).f0) ((rd_T62 l2_0 a1).f0) t131 _ A41.out).mono ?_);rintro e w' ⟨rfl,⟨nd,rfl⟩⟩;refine ⟨_,rfl,?_⟩))
   go_ret
   exact ⟨by first|rfl|(simp [errW_none,errW_some] <;> rfl)|(simp [*,errW_none,errW_some] <;> rfl),by repeat (first|(with_reducible first|exact HB.out|apply below_alloc|apply pw_below_drewN|apply below_drew1|refine below_set ?_ GE126.out|refine below_set ?_ GE129.out|refine below_set ?_ GE130.out)|exact HB.out)⟩
/-! ### leadlag_sortBy: function 74 -/
def leadlag_sortBy.f (k : Nat) (l0 : List Int) (l1 : List S62) (a1 a2 : Int) : Option (List Int):=slices_SortStableFunc_int_int.f (fun x y => leadlag_Order_1.f 1 x y l1 a1 a2) k l0
theorem leadlag_sortBy.mono : ∀ a0 a1 a2 a3 k,LeO (leadlag_sortBy.f k a0 a1 a2 a3) (leadlag_sortBy.f (k + 1) a0 a1 a2 a3):=fun a0 a1 a2 a3 k => slices_SortStableFunc_int_int.mono _ a0 k
theorem leadlag_sortBy.calls (k : Nat) (P0_ : Nat→Prop) (u9000_ : Value) (l0 : List Int) (A1 : Option Addr) (c1 : Nat) (l1 : List S62) (a1 a2 : Int) (r : List Int) (w0 w : World) (g : Nat) (hg : w.heap[g]? = some (.cells #[.slice A1 l1.length c1,.int .i64 a1,.int .i64 a2] 32 (0,0))) (hne : ¬ P0_ g) (hB : Below w0.heap.size w0 w) (ho0 : Kd.R (Kd.int .i64) 3 w w0.heap.size P0_ u9000_ l0) (hr1 : ∀ W_ : World,Kept w W_ (fun k_ => P0_ k_)→Kd.C k62 W_ A1 l1.length l1) (hc1 : l1.length ≤ c1) (h : leadlag_sortBy.f k l0 l1 a1 a2 = some r) :
  Calls Try.prog 35 #[u9000_,.func (.func 36) #[] #[.pointer (some ⟨g,0,none⟩)]] w fun e w' => e = .returned (.tuple #[])∧Kd.R (Kd.int .i64) 3 w' w0.heap.size (fun k_ => (P0_ k_ ∨ w.heap.size ≤ k_)) u9000_ r∧Below w0.heap.size w0 w'∧Kept w w' (fun k_ => P0_ k_) :=
 slices_SortStableFunc_int_int.calls (fun x y => leadlag_Order_1.f 1 x y l1 a1 a2) 36 Try.f36 #[.pointer (some ⟨g,0,none⟩)] Try.func36 (by kernel_rfl) rfl k P0_ u9000_ l0 r w0 w (fun W_ hk x y v hv => leadlag_Order_1.calls 1 x y A1 c1 l1 a1 a2 v W_ g (blk_kept hg hk hne) (hr1 W_ hk) hc1 hv) hB ho0 h

/-! ### leadlag_Order: function 20 -/
def leadlag_Order.l0 : Nat→List Int→Int→Int→List (S62)→Int→Int→Option (List Int)
 | 0,_,_,_,_,_,_ => none
 | k + 1,x3,x7,x8,x127000,x127001,x127002 => if x8 < x7 then (if x3.length < 17592186044416 then (leadlag_Order.l0 k (x3 ++ [x8]) x7 (wrap64 (x8 + 1)) x127000 x127001 x127002) else (none)) else ((leadlag_sortBy.f k x3 x127000 x127001 x127002).bind fun t130 => (some t130))
def leadlag_Order.f (k : Nat) (l0_0 : List (S62)) (a0_1 : Int) (a0_2 : Int) : Option (List Int):=leadlag_Order.l0 k ([] : List Int) (l0_0.length : Int) 0 l0_0 a0_1 a0_2
theorem leadlag_Order.mono_l : ∀ k,(∀ y0 y1 y2 y3 y4 y5,LeO (leadlag_Order.l0 k y0 y1 y2 y3 y4 y5) (leadlag_Order.l0 (k + 1) y0 y1 y2 y3 y4 y5))
 | 0 => fun _ _ _ _ _ _ r h => by simp [leadlag_Order.l0] at h
 | k + 1 => by
  have ih0:=leadlag_Order.mono_l k
  ·intro y0 y1 y2 y3 y4 y5
   unfold leadlag_Order.l0
   repeat' first
   | (with_reducible exact ih0 _ _ _ _ _ _)
   | (with_reducible exact leadlag_sortBy.mono _ _ _ _ _)
   | (with_reducible exact LeO.refl _)
   | (with_reducible exact LeO.none _)
   | (with_reducible refine LeO.ite ?_ ?_)
   | (with_reducible refine LeO.bind ?_ (fun _ => ?_))
   | exact ih0 _ _ _ _ _ _
   | exact leadlag_sortBy.mono _ _ _ _ _
   | exact LeO.none _
   | refine LeO.ite ?_ ?_
   | refine LeO.bind ?_ (fun _ => ?_)
theorem leadlag_Order.mono : ∀ a0 a1 a2 k,LeO (leadlag_Order.f k a0 a1 a2) (leadlag_Order.f (k + 1) a0 a1 a2):=by
 intro a0 a1 a2 k
 have ih0:=leadlag_Order.mono_l k
 unfold leadlag_Order.f
 repeat' first
   | (with_reducible exact ih0 _ _ _ _ _ _)
   | (with_reducible exact leadlag_sortBy.mono _ _ _ _ _)
   | (with_reducible exact LeO.refl _)
   | (with_reducible exact LeO.none _)
   | (with_reducible refine LeO.ite ?_ ?_)
   | (with_reducible refine LeO.bind ?_ (fun _ => ?_))
   | exact ih0 _ _ _ _ _ _
   | exact leadlag_sortBy.mono _ _ _ _ _
   | exact LeO.none _
   | refine LeO.ite ?_ ?_
   | refine LeO.bind ?_ (fun _ => ?_)
set_option maxHeartbeats 8000000 in
set_option maxRecDepth 100000 in
theorem leadlag_Order.calls (k : Nat) (A0_0 : Option Addr) (c0_0 : Nat) (l0_0 : List (S62)) (a0_1 : Int) (a0_2 : Int) (r : List Int) (w : World) (hr0_0 : Kd.C k62 w A0_0 l0_0.length l0_0) (hc0_0 : l0_0.length ≤ c0_0) (h : leadlag_Order.f k l0_0 a0_1 a0_2 = some r) :
  Calls Try.prog 20 #[.agg #[.slice A0_0 l0_0.length c0_0,.int .i64 a0_1,.int .i64 a0_2]] w fun e w' => ∃ v0_ : Value,e = .returned (v0_)∧Kd.R (Kd.int .i64) 3 w' w.heap.size (fun _ => True) v0_ r∧Below w.heap.size w w':=by
 have hu32:=Try.underlying32
 have HR0_0:=Aside0.mk hr0_0
 have HC0_0:=Aside0.mk hc0_0
 clear hr0_0 hc0_0
 have HB:=Aside0.mk (Below.refl w.heap.size w)
 have H : (leadlag_Order.l0 k ([] : List Int) (l0_0.length : Int) 0 l0_0 a0_1 a0_2) = some r:=h
 clear h
 have H':=Aside0.mk H
 clear H
 go_enter Try.func20,Try.ntmps20
 go_wp2_with (first|((with_reducible refine gate_dst (N:=1) rfl ?_);refine box_event ?hg (N:=1) ?hd (cs:=#[.slice A0_0 l0_0.length c0_0,.int .i64 a0_1,.int .i64 a0_2]) (t:=32) ?hr ?_;(case hd => rfl);(case hg => rfl);(case hr => first|(go_simp;done)|(go_simp;rfl));intro gb126 hg w2 hbox hb;have n0_:=Aside0.mk (below_step (by repeat (first|(with_reducible first|exact HB.out|apply below_alloc|apply pw_below_drewN|apply below_drew1)|exact HB.out)) hb);have n1_:=Aside0.mk (hbox);have n2_:=Aside0.mk ((by rw [hg];exact (below_size (by repeat (first|(with_reducible first|exact HB.out|apply below_alloc|apply pw_below_drewN|apply below_drew1)|exact HB.out))) : w.heap.size ≤ gb126));have n3_:=Aside0.mk ((by rw [hg];exact (below_size (by repeat (first|(with_reducible first|exact HB.out|apply below_alloc|apply pw_below_drewN|apply below_drew1)|exact HB.out))) : w.heap.size ≤ gb126));clear HB;have HB:=n0_;have BK126:=n1_;have GW126:=n2_;have GE126:=n3_;clear n0_ n1_ n2_ n3_;clear hb hbox hg;have hcz3_0 : w2.cell? ⟨gb126,0,none⟩ = some (.slice A0_0 l0_0.length c0_0):=(blk_cell BK126.out 0).trans rfl;have hcz3_1 : w2.cell? ⟨gb126,1,none⟩ = some (.int .i64 a0_1):=(blk_cell BK126.out 1).trans rfl;have hcz3_2 : w2.cell? ⟨gb126,2,none⟩ = some (.int .i64 a0_2):=(blk_cell BK126.out 2).trans rfl;have hfz3_0:=blk_frozen BK126.out 0;have hfz3_1:=blk_frozen BK126.out 1;have hfz3_2:=blk_frozen BK126.out 2))
 go_loopg [3,8] k (fun kq v3 v8 w' => ∃ (x3_1 : List Int) (x8_1 : Int),v8 = .int .i64 x8_1∧Aside0 (leadlag_Order.l0 kq x3_1 (l0_0.length : Int) x8_1 l0_0 a0_1 a0_2 = some r)∧Aside0 (kq ≤ k)∧Aside0 (Kd.R (Kd.int .i64) 3 w' w.heap.size (fun _ => True) v3 x3_1)∧Aside0 (w'.heap[gb126]? = some (.cells #[(.slice A0_0 l0_0.length c0_0),.int .i64 a0_1,.int .i64 a0_2] 32 (0,0)))∧Aside0 (Below w.heap.size w w'))
 case atStart => exact ⟨(([] : List Int)),(0),(by first|rfl|(simp;done)|(simp [*];done)),H',⟨Nat.le_refl _⟩,⟨by first|exact Kd.R_nil _ _ _ _ _|exact Kd.N_nil _ _ _ _ _|exact Kd.V_nil _ _ _ _ _|exact Kd.Q_nil _ _ _ _ _|exact Kd.S_nil _ _ _ _ _⟩,⟨by (with_reducible repeat (first|refine blk_drewN ?_ _|refine blk_drew ?_|refine blk_alloc ?_ _));exact BK126.out⟩,⟨by repeat (first|(with_reducible first|exact HB.out|apply below_alloc|apply pw_below_drewN|apply below_drew1|refine below_set ?_ GE126.out)|exact HB.out)⟩⟩
 case round =>
  clear H'
  (try clear c2);(try clear p2);(try clear hcz3_0);(try clear hcz3_1);(try clear hcz3_2);(try clear hfz3_0);(try clear hfz3_1);(try clear hfz3_2)
  obtain ⟨x3_1,x8_1,rfl,HA,HK1,HO_3,BK126,HB⟩:=hrel
  cases gk with
  | zero => exact absurd HA.out (by simp [leadlag_Order.l0])
  | succ k1 =>
   have H:=HA.out
   clear HA
   simp only [leadlag_Order.l0] at H
   by_cases c4 : x8_1 < (l0_0.length : Int)
   ·rw [if_pos c4] at H
    have c4b0 : decide (x8_1 < (l0_0.length : Int)) = true:=decide_eq_true c4
    clear c4
    by_cases c5 : x3_1.length < 17592186044416
    rotate_left
    ·rw [if_neg c5] at H
     exact absurd H (by simp)
    rw [if_pos c5] at H
    have LMc5:=Aside0.mk c5
    clear c5
    obtain ⟨y127,hy127⟩ : ∃ y_ : List Int,y_ = (x3_1 ++ [x8_1]):=⟨_,rfl⟩
    replace H : (leadlag_Order.l0 k1 y127 (l0_0.length : Int) (wrap64 (x8_1 + 1)) l0_0 a0_1 a0_2) = some r:=by first|(rw [hy127];with_reducible exact H)|(have H2_:=(Option.bind_some _ _).symm.trans H;rw [hy127];with_reducible exact H2_)|(have H2_:=(Option.bind_some _ _).symm.trans H;with_reducible exact H2_)|with_reducible exact H|(rw [hy127];exact H)|exact H
    have Ny127:=Aside0.mk hy127
    clear hy127
    have H':=Aside0.mk H
    clear H
    go_wp2_with (first|((with_reducible refine gate_builtin (b:=.append) (xs:=#[.tmp 11,.tmp 13]) rfl ?_);at_builtin;refine Kd.R_append (Kd.int .i64) (w0:=w) w.heap.size rfl (.tmp 11) (.tmp 13) 49 3 (.int .i64 0) 8 rfl Try.underlying49 info3 rfl (by decide) (by omega) u3 x3_1 x8_1 [.int .i64 x8_1] (fun _ => True) (fun _ => False) rfl rfl ?aP (fun _ hk => hk.elim) ?aF ?aO ?aB ?aS ?aL ?_;(case aP => exact rfl);(case aB => exact (by repeat (first|(with_reducible first|exact HB.out|apply below_alloc|apply pw_below_drewN|apply below_drew1|refine below_set ?_ GE126.out)|exact HB.out)));(case aF => exact (fun _ _ => trivial));(case aO => exact (by (with_reducible repeat (first|apply Kd.R_alloc|apply Kd.R_drewN|apply Kd.R_drew));exact HO_3.out));(case aS => exact (below_size (by repeat (first|(with_reducible first|exact HB.out|apply below_alloc|apply pw_below_drewN|apply below_drew1|refine below_set ?_ GE126.out)|exact HB.out))));(case aL => have:=LMc5.out;omega);intro v128 w6 ho hb hg hat;rw [← Ny127.out] at ho;have n0_:=Aside0.mk (blk_grown (g:=gb126) (o:=.cells #[.slice A0_0 l0_0.length c0_0,.int .i64 a0_1,.int .i64 a0_2] 32 (0,0)) (by (with_reducible repeat (first|refine blk_drewN ?_ _|refine blk_drew ?_|refine blk_alloc ?_ _));exact BK126.out) hg (Kd.R_ne HO_3.out BK126.out (by decide)));have n1_:=Aside0.mk (hb);have n2_:=Aside0.mk (ho);clear BK126;clear HB;clear HO_3;have BK126:=n0_;have HB:=n1_;have HO129:=n2_;clear n0_ n1_ n2_;clear ho hb hg hat))
    go_roundg k1
    case measure => have:=HK1.out;omega
    case rel => exact ⟨(y127),(wrap64 (x8_1 + 1)),(by first|rfl|(simp;done)|(simp [*];done)),H',⟨by have:=HK1.out;omega⟩,⟨by (with_reducible repeat (first|apply Kd.R_alloc|apply Kd.R_drewN|apply Kd.R_drew));exact HO129.out⟩,⟨by (with_reducible repeat (first|refine blk_drewN ?_ _|refine blk_drew ?_|refine blk_alloc ?_ _));exact BK126.out⟩,⟨by repeat (first|(with_reducible first|exact HB.out|apply below_alloc|apply pw_below_drewN|apply below_drew1|refine below_set ?_ GE126.out)|exact HB.out)⟩⟩
   rw [if_neg c4] at H
   have c4b0 : decide (x8_1 < (l0_0.length : Int)) = false:=decide_eq_false c4
   clear c4
   replace H:=Option.bind_eq_some_iff.mp H
   obtain ⟨t130,A70,H⟩:=H
   replace H : (some t130) = some r:=H
   have A7:=Aside0.mk A70
   clear A70
   obtain rfl:=Option.some.inj H
   have hcz8_0 : wr.cell? ⟨gb126,0,none⟩ = some (.slice A0_0 l0_0.length c0_0):=(blk_cell BK126.out 0).trans rfl
   have hcz8_1 : wr.cell? ⟨gb126,1,none⟩ = some (.int .i64 a0_1):=(blk_cell BK126.out 1).trans rfl
   have hcz8_2 : wr.cell? ⟨gb126,2,none⟩ = some (.int .i64 a0_2):=(blk_cell BK126.out 2).trans rfl
   have hfz8_0:=blk_frozen BK126.out 0
   have hfz8_1:=blk_frozen BK126.out 1
   have hfz8_2:=blk_frozen BK126.out 2
   obtain ⟨Ao9,co9,eo9⟩:=Kd.R_slice HO_3.out
   subst eo9
   go_wp2_with (first|((with_reducible refine gate_callee (f:=35) rfl ?_);refine goesL_ (some 18) rfl rfl Try.func35 (by kernel_rfl) rfl #[.slice Ao9 x3_1.length co9,.func (.func 36) #[] #[.pointer (some ⟨gb126,0,none⟩)]] rfl (by (try simp only [List.map_toArray,List.map_cons,List.map_nil]);first|done|rfl|(simp only [List.length_drop,List.length_take];rfl)) ?_;(refine (leadlag_sortBy.calls k1 (fun k_ => some k_ = (.slice Ao9 x3_1.length co9 : Value).ownBlock) (.slice Ao9 x3_1.length co9) x3_1 _ _ l0_0 a0_1 a0_2 t130 w _ gb126 (by (with_reducible repeat (first|refine blk_drewN ?_ _|refine blk_drew ?_|refine blk_alloc ?_ _));exact BK126.out) (fun hs_ => (fun e_ => (Kd.R_ne HO_3.out BK126.out (by decide)) e_) hs_) ?side1 ?side2 ?side3 ?side4 A7.out).mono ?_);(case side1 => repeat (first|(with_reducible first|exact HB.out|apply below_alloc|apply pw_below_drewN|apply below_drew1|refine below_set ?_ GE126.out)|exact HB.out));(case side2 => exact Kd.R_tight rfl HO_3.out);(case side3 => exact Kd.C_kept_came k62_heap HR0_0.out (by repeat (first|(with_reducible first|exact HB.out|apply below_alloc|apply pw_below_drewN|apply below_drew1|refine below_set ?_ GE126.out)|exact HB.out)) (fun k_ hs_ => (fun e_ => Kd.R_base HO_3.out k_ e_.symm) hs_));(case side4 => exact HC0_0.out);rintro e w10 ⟨rfl,hy0,hb,hkp⟩;refine ⟨_,rfl,?_⟩;have n0_:=Aside0.mk (Kd.R_reok rfl hy0 (fun k_ e_ => HO_3.out.1 k_ e_));have n1_:=Aside0.mk (blk_kept (by (with_reducible repeat (first|refine blk_drewN ?_ _|refine blk_drew ?_|refine blk_alloc ?_ _));exact BK126.out) hkp (fun hs_ => (fun e_ => (Kd.R_ne HO_3.out BK126.out (by decide)) e_) hs_));have n2_:=Aside0.mk (hb);clear HO_3;clear BK126;clear HB;have HO_3:=n0_;have BK126:=n1_;have HB:=n2_;clear n0_ n1_ n2_;(try clear hb);(try clear hkp);(try clear hy0)))
   go_ret
   exact ⟨_,by first|rfl|(simp [errW_none,errW_some] <;> rfl)|(simp [*,errW_none,errW_some] <;> rfl),by (with_reducible repeat (first|apply Kd.R_alloc|apply Kd.R_drewN|apply Kd.R_drew));exact HO_3.out,by repeat (first|(with_reducible first|exact HB.out|apply below_alloc|apply pw_below_drewN|apply below_drew1|refine below_set ?_ GE126.out)|exact HB.out)⟩

end Go.Proofs.Ytbecejhjdagkdaa.L
