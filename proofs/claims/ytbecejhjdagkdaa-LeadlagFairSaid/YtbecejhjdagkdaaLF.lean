-- Written by pp.py (a program of this session, over the kit's print.py) out of the translation. Not trusted: Lean checks it.
import Derived.Test.YtbecejhjdagkdaaLx0
import Derived.Test.YtbecejhjdagkdaaLx1
import Derived.Test.YtbecejhjdagkdaaLx7
import Derived.Test.YtbecejhjdagkdaaLx8
import Derived.Test.YtbecejhjdagkdaaLx9
namespace Go.Proofs.Ytbecejhjdagkdaa.L
open Go.RowKit Go.Proofs.YtbecejhjdagkdaaW.PrintWords Go.Proofs.YtbecejhjdagkdaaW.PrintLast Go.Proofs.YtbecejhjdagkdaaW.PrintMore
attribute [local go_sem] max2_int min2_int max_two min_two max_three min_three max_four min_four   -- for this text's walks alone
attribute [local go_sem] pp_mod256 pp_mod256_w
set_option linter.unusedVariables false
set_option linter.unusedSimpArgs false

/-! ### plenumlaw55_LeadlagFair: function 5 -/
mutual
def plenumlaw55_LeadlagFair.j0 : Nat → Int → Int → List Int → Int → Bool → Int → Int → Option (Bool)
 | 0, _, _, _, _, _, _, _ => none
 | k + 1, x1, x2, x3, x4, x31, x256000, x256001 => if x31 = true then (some true) else ((leadlag_New.f k x1 x4).bind fun bt257 => (if bt257.2.2.2 = 0 then (plenumlaw55_LeadlagFair.l0 k x2 x3 x4 0 x256000 x256001 bt257.1 bt257.2.1 bt257.2.2.1) else (some ((bt257.1.length : Int) == 0))))
def plenumlaw55_LeadlagFair.l0 : Nat → Int → List Int → Int → Int → Int → Int → List (S62) → Int → Int → Option (Bool)
 | 0, _, _, _, _, _, _, _, _, _ => none
 | k + 1, x2, x3, x4, x13, x256000, x256001, x264000, x264001, x264002 => if x13 < (x264000.length : Int) then (if 0 ≤ x13 then (plenumlaw55_LeadlagFair.l0 k x2 x3 x4 (wrap64 (x13 + 1)) x256000 x256001 (x264000.set (x13 : Int).toNat (⟨x2, (rd_T62 x264000 x13).f1, (rd_T62 x264000 x13).f2⟩ : S62)) x264001 x264002) else (none)) else ((plenumlaw55_rule.f x256000 x256001).bind fun bt265 => ((leadlag_Play.f k bt265.1 bt265.2 x264000 x264001 x264002 x3 x4).bind fun bt267 => (if bt267.2 = 0 then (plenumlaw55_LeadlagFair.l1 k x3 bt267.1 0 x256000 x256001) else (some ((bt267.1.length : Int) == 0)))))
def plenumlaw55_LeadlagFair.l1 : Nat → List Int → List (S32) → Int → Int → Int → Option (Bool)
 | 0, _, _, _, _, _ => none
 | k + 1, x3, x14, x16, x256000, x256001 => if x16 < (x14.length : Int) then (if 0 ≤ x16 then ((leadlag_Spread.f k ((rd_T32 x14 x16).f0) ((rd_T32 x14 x16).f1) ((rd_T32 x14 x16).f2)).bind fun bt272 => (if bt272.2 = 0 then (if bt272.1 > (wrap64 (x256000 + 1)) then (some false) else (plenumlaw55_LeadlagFair.l1 k x3 x14 (wrap64 (x16 + 1)) x256000 x256001)) else (some false))) else (none)) else (some ((x14.length : Int) == (x3.length : Int)))
end
def plenumlaw55_LeadlagFair.f (k : Nat) (a0_0 : Int) (a0_1 : Int) (a1 : Int) (a2 : Int) (l3 : List Int) (a4 : Int) : Option (Bool) := (plenumlaw55_awake.f k).bind fun t256 => (if t256 = true then (if (l3.length : Int) > 400 then (plenumlaw55_LeadlagFair.j0 k a1 a2 l3 a4 true a0_0 a0_1) else (if a2 < 0 then (plenumlaw55_LeadlagFair.j0 k a1 a2 l3 a4 true a0_0 a0_1) else (plenumlaw55_LeadlagFair.j0 k a1 a2 l3 a4 (decide (a2 > 1000000)) a0_0 a0_1))) else (some false))
theorem plenumlaw55_LeadlagFair.mono_l : ∀ k, (∀ y0 y1 y2 y3 y4 y5 y6, LeO (plenumlaw55_LeadlagFair.j0 k y0 y1 y2 y3 y4 y5 y6) (plenumlaw55_LeadlagFair.j0 (k + 1) y0 y1 y2 y3 y4 y5 y6)) ∧ (∀ y0 y1 y2 y3 y4 y5 y6 y7 y8, LeO (plenumlaw55_LeadlagFair.l0 k y0 y1 y2 y3 y4 y5 y6 y7 y8) (plenumlaw55_LeadlagFair.l0 (k + 1) y0 y1 y2 y3 y4 y5 y6 y7 y8)) ∧ (∀ y0 y1 y2 y3 y4, LeO (plenumlaw55_LeadlagFair.l1 k y0 y1 y2 y3 y4) (plenumlaw55_LeadlagFair.l1 (k + 1) y0 y1 y2 y3 y4))
 | 0 => ⟨fun _ _ _ _ _ _ _ r h => by simp [plenumlaw55_LeadlagFair.j0] at h, fun _ _ _ _ _ _ _ _ _ r h => by simp [plenumlaw55_LeadlagFair.l0] at h, fun _ _ _ _ _ r h => by simp [plenumlaw55_LeadlagFair.l1] at h⟩
 | k + 1 => by
  obtain ⟨ih0, ih1, ih2⟩ := plenumlaw55_LeadlagFair.mono_l k
  refine ⟨?_, ?_, ?_⟩
  ·intro y0 y1 y2 y3 y4 y5 y6
   unfold plenumlaw55_LeadlagFair.j0
   repeat' first
   | (with_reducible exact ih0 _ _ _ _ _ _ _)
   | (with_reducible exact ih1 _ _ _ _ _ _ _ _ _)
   | (with_reducible exact ih2 _ _ _ _ _)
   | (with_reducible exact leadlag_New.mono _ _ _)
   | (with_reducible exact leadlag_Play.mono _ _ _ _ _ _ _ _)
   | (with_reducible exact leadlag_Spread.mono _ _ _ _)
   | (with_reducible exact plenumlaw55_awake.mono _)
   | (with_reducible exact LeO.refl _)
   | (with_reducible exact LeO.none _)
   | (with_reducible refine LeO.ite ?_ ?_)
   | (with_reducible refine LeO.bind ?_ (fun _ => ?_))
   | exact ih0 _ _ _ _ _ _ _
   | exact ih1 _ _ _ _ _ _ _ _ _
   | exact ih2 _ _ _ _ _
   | exact leadlag_New.mono _ _ _
   | exact leadlag_Play.mono _ _ _ _ _ _ _ _
   | exact leadlag_Spread.mono _ _ _ _
   | exact plenumlaw55_awake.mono _
   | exact LeO.none _
   | refine LeO.ite ?_ ?_
   | refine LeO.bind ?_ (fun _ => ?_)
  ·intro y0 y1 y2 y3 y4 y5 y6 y7 y8
   unfold plenumlaw55_LeadlagFair.l0
   repeat' first
   | (with_reducible exact ih0 _ _ _ _ _ _ _)
   | (with_reducible exact ih1 _ _ _ _ _ _ _ _ _)
   | (with_reducible exact ih2 _ _ _ _ _)
   | (with_reducible exact leadlag_New.mono _ _ _)
   | (with_reducible exact leadlag_Play.mono _ _ _ _ _ _ _ _)
   | (with_reducible exact leadlag_Spread.mono _ _ _ _)
   | (with_reducible exact plenumlaw55_awake.mono _)
   | (with_reducible exact LeO.refl _)
   | (with_reducible exact LeO.none _)
   | (with_reducible refine LeO.ite ?_ ?_)
   | (with_reducible refine LeO.bind ?_ (fun _ => ?_))
   | exact ih0 _ _ _ _ _ _ _
   | exact ih1 _ _ _ _ _ _ _ _ _
   | exact ih2 _ _ _ _ _
   | exact leadlag_New.mono _ _ _
   | exact leadlag_Play.mono _ _ _ _ _ _ _ _
   | exact leadlag_Spread.mono _ _ _ _
   | exact plenumlaw55_awake.mono _
   | exact LeO.none _
   | refine LeO.ite ?_ ?_
   | refine LeO.bind ?_ (fun _ => ?_)
  ·intro y0 y1 y2 y3 y4
   unfold plenumlaw55_LeadlagFair.l1
   repeat' first
   | (with_reducible exact ih0 _ _ _ _ _ _ _)
   | (with_reducible exact ih1 _ _ _ _ _ _ _ _ _)
   | (with_reducible exact ih2 _ _ _ _ _)
   | (with_reducible exact leadlag_New.mono _ _ _)
   | (with_reducible exact leadlag_Play.mono _ _ _ _ _ _ _ _)
   | (with_reducible exact leadlag_Spread.mono _ _ _ _)
   | (with_reducible exact plenumlaw55_awake.mono _)
   | (with_reducible exact LeO.refl _)
   | (with_reducible exact LeO.none _)
   | (with_reducible refine LeO.ite ?_ ?_)
   | (with_reducible refine LeO.bind ?_ (fun _ => ?_))
   | exact ih0 _ _ _ _ _ _ _
   | exact ih1 _ _ _ _ _ _ _ _ _
   | exact ih2 _ _ _ _ _
   | exact leadlag_New.mono _ _ _
   | exact leadlag_Play.mono _ _ _ _ _ _ _ _
   | exact leadlag_Spread.mono _ _ _ _
   | exact plenumlaw55_awake.mono _
   | exact LeO.none _
   | refine LeO.ite ?_ ?_
   | refine LeO.bind ?_ (fun _ => ?_)
theorem plenumlaw55_LeadlagFair.mono : ∀ a0 a1 a2 a3 a4 a5 k, LeO (plenumlaw55_LeadlagFair.f k a0 a1 a2 a3 a4 a5) (plenumlaw55_LeadlagFair.f (k + 1) a0 a1 a2 a3 a4 a5) := by
 intro a0 a1 a2 a3 a4 a5 k
 obtain ⟨ih0, ih1, ih2⟩ := plenumlaw55_LeadlagFair.mono_l k
 unfold plenumlaw55_LeadlagFair.f
 repeat' first
   | (with_reducible exact ih0 _ _ _ _ _ _ _)
   | (with_reducible exact ih1 _ _ _ _ _ _ _ _ _)
   | (with_reducible exact ih2 _ _ _ _ _)
   | (with_reducible exact leadlag_New.mono _ _ _)
   | (with_reducible exact leadlag_Play.mono _ _ _ _ _ _ _ _)
   | (with_reducible exact leadlag_Spread.mono _ _ _ _)
   | (with_reducible exact plenumlaw55_awake.mono _)
   | (with_reducible exact LeO.refl _)
   | (with_reducible exact LeO.none _)
   | (with_reducible refine LeO.ite ?_ ?_)
   | (with_reducible refine LeO.bind ?_ (fun _ => ?_))
   | exact ih0 _ _ _ _ _ _ _
   | exact ih1 _ _ _ _ _ _ _ _ _
   | exact ih2 _ _ _ _ _
   | exact leadlag_New.mono _ _ _
   | exact leadlag_Play.mono _ _ _ _ _ _ _ _
   | exact leadlag_Spread.mono _ _ _ _
   | exact plenumlaw55_awake.mono _
   | exact LeO.none _
   | refine LeO.ite ?_ ?_
   | refine LeO.bind ?_ (fun _ => ?_)
def plenumlaw55_LeadlagFair.T12 : Bool × List (List Nat × List Nat) := (true, [([], []), ([0], [0]), ([], []), ([], []), ([], []), ([1, 2, 3, 4, 1], [1, 2, 3, 4]), ([5], [5]), ([6], [6]), ([6], [6]), ([7, 5, 0, 1, 2, 3, 4, 5, 6, 7], [7]), ([8, 9, 0, 1, 2, 3, 4, 5, 6, 7, 8, 9], [8])])
def plenumlaw55_LeadlagFair.B12 : List Nat := [0, 1, 0, 0, 0, 31, 63, 127, 127, 255, 1023]
theorem plenumlaw55_LeadlagFair.tab12 : rtab .any (opsOf Try.f5 12) = plenumlaw55_LeadlagFair.T12 := by kernel_rfl
theorem plenumlaw55_LeadlagFair.bits12 : waitsOk plenumlaw55_LeadlagFair.T12.2 plenumlaw55_LeadlagFair.B12 = true := by kernel_rfl
set_option maxHeartbeats 8000000 in
set_option maxRecDepth 100000 in
theorem plenumlaw55_LeadlagFair.calls (k : Nat) (a0_0 : Int) (a0_1 : Int) (a1 : Int) (a2 : Int) (A3 : Option Addr) (c3 : Nat) (l3 : List Int) (a4 : Int) (r : Bool) (w : World) (hr3 : Kd.C (Kd.int .i64) w A3 l3.length l3) (hc3 : l3.length ≤ c3) (h : plenumlaw55_LeadlagFair.f k a0_0 a0_1 a1 a2 l3 a4 = some r) :
  Calls Try.prog 5 #[.agg #[.int .i64 a0_0, .int .i64 a0_1], .int .i64 a1, .int .i64 a2, .slice A3 l3.length c3, .int .i64 a4] w fun e w' => e = .returned (.bool r) ∧ Below w.heap.size w w' := by
 have hu23 := Try.underlying23
 have hu32 := Try.underlying32
 have HR3 := Aside0.mk hr3
 have HC3 := Aside0.mk hc3
 clear hr3 hc3
 have HB := Aside0.mk (Below.refl w.heap.size w)
 have H : ((plenumlaw55_awake.f k).bind fun t256 => (if t256 = true then (if (l3.length : Int) > 400 then (plenumlaw55_LeadlagFair.j0 k a1 a2 l3 a4 true a0_0 a0_1) else (if a2 < 0 then (plenumlaw55_LeadlagFair.j0 k a1 a2 l3 a4 true a0_0 a0_1) else (plenumlaw55_LeadlagFair.j0 k a1 a2 l3 a4 (decide (a2 > 1000000)) a0_0 a0_1))) else (some false))) = some r := h
 clear h
 replace H := Option.bind_eq_some_iff.mp H
 obtain ⟨t256, A60, H⟩ := H
 replace H : (if t256 = true then (if (l3.length : Int) > 400 then (plenumlaw55_LeadlagFair.j0 k a1 a2 l3 a4 true a0_0 a0_1) else (if a2 < 0 then (plenumlaw55_LeadlagFair.j0 k a1 a2 l3 a4 true a0_0 a0_1) else (plenumlaw55_LeadlagFair.j0 k a1 a2 l3 a4 (decide (a2 > 1000000)) a0_0 a0_1))) else (some false)) = some r := H
 have A6 := Aside0.mk A60
 clear A60
 by_cases c7 : t256 = true
 ·subst c7
  have H1 : (if (l3.length : Int) > 400 then (plenumlaw55_LeadlagFair.j0 k a1 a2 l3 a4 true a0_0 a0_1) else (if a2 < 0 then (plenumlaw55_LeadlagFair.j0 k a1 a2 l3 a4 true a0_0 a0_1) else (plenumlaw55_LeadlagFair.j0 k a1 a2 l3 a4 (decide (a2 > 1000000)) a0_0 a0_1))) = some r := by rw [if_pos rfl] at H; exact H
  clear H
  have H := H1
  clear H1
  have HC8 := Aside0.mk H
  clear H
  go_enter Try.func5, Try.ntmps5
  go_upto_region 3 with (first | ((with_reducible refine gate_dst (N := 5) rfl ?_); refine box_event ?hg (N := 5) ?hd (cs := #[.int .i64 a0_0, .int .i64 a0_1]) (t := 23) ?hr ?_; (case hd => rfl); (case hg => rfl); (case hr => first | (go_simp; done) | (go_simp; rfl)); intro gb255 hg w9 hbox hb; have n0_ := Aside0.mk (below_step (by repeat (first | (with_reducible first | exact HB.out | apply below_alloc | apply pw_below_drewN | apply below_drew1) | exact HB.out)) hb); have n1_ := Aside0.mk (hbox); have n2_ := Aside0.mk ((by rw [hg]; exact (below_size (by repeat (first | (with_reducible first | exact HB.out | apply below_alloc | apply pw_below_drewN | apply below_drew1) | exact HB.out))) : w.heap.size ≤ gb255)); have n3_ := Aside0.mk ((by rw [hg]; exact (below_size (by repeat (first | (with_reducible first | exact HB.out | apply below_alloc | apply pw_below_drewN | apply below_drew1) | exact HB.out))) : w.heap.size ≤ gb255)); clear HB; have HB := n0_; have BK255 := n1_; have GW255 := n2_; have GE255 := n3_; clear n0_ n1_ n2_ n3_; clear hb hbox hg) | ((with_reducible refine gate_callee (f := 8) rfl ?_); refine goesL_ (some 19) rfl rfl Try.func8 (by kernel_rfl) rfl #[] rfl (by (try simp only [List.map_toArray, List.map_cons, List.map_nil]); first | done | rfl | (simp only [List.length_drop, List.length_take]; rfl)) ?_; (with_reducible refine (plenumlaw55_awake.calls k  true _ A6.out).mono ?_); rintro e w10 ⟨rfl, hb⟩; refine ⟨_, rfl, ?_⟩; have n0_ := Aside0.mk (blk_below (g := gb255) (o := .cells #[.int .i64 a0_0, .int .i64 a0_1] 23 (0, 0)) (by (with_reducible repeat (first | refine blk_drewN ?_ _ | refine blk_drew ?_ | refine blk_alloc ?_ _)); exact BK255.out) hb); have n1_ := Aside0.mk (below_step (by repeat (first | (with_reducible first | exact HB.out | apply below_alloc | apply pw_below_drewN | apply below_drew1 | refine below_set ?_ GE255.out) | exact HB.out)) hb); clear BK255; clear HB; have BK255 := n0_; have HB := n1_; clear n0_ n1_; (try clear hb); (try clear hb2); (try clear hk); (try clear hi)))
  (try simp only [Act.put, List.setIfInBounds_toArray, List.set_cons_zero, List.set_cons_succ])
  go_cut [31] (fun v31 wc => ∃ (kq : Nat) (x31_7 : Bool), v31 = .bool x31_7 ∧ Aside0 (plenumlaw55_LeadlagFair.j0 kq a1 a2 l3 a4 x31_7 a0_0 a0_1 = some r) ∧ Aside0 (kq ≤ k) ∧ Aside0 (wc.heap[gb255]? = some (.cells #[.int .i64 a0_0, .int .i64 a0_1] 23 (0, 0))) ∧ Aside0 (Below w.heap.size w wc))
  case first =>
   have H := HC8.out
   clear HC8
   by_cases c11 : (l3.length : Int) > 400
   ·rw [if_pos c11] at H
    have c11b0 : decide (400 < (l3.length : Int)) = true := decide_eq_true c11
    have c11b1 : decide (400 < l3.length) = true := decide_eq_true (by omega)
    clear c11
    (first | rw [c11b0] | (simp only [i64_w, i32_w]; rw [c11b0]) | skip)
    have H' := Aside0.mk H
    clear H
    go_wp2
    go_meet
    case rel => exact ⟨_, (true), (by first | rfl | (simp; done) | (simp [*]; done)), H', ⟨by first | omega | exact Nat.le_refl _⟩, ⟨by (with_reducible repeat (first | refine blk_drewN ?_ _ | refine blk_drew ?_ | refine blk_alloc ?_ _)); exact BK255.out⟩, ⟨by repeat (first | (with_reducible first | exact HB.out | apply below_alloc | apply pw_below_drewN | apply below_drew1 | refine below_set ?_ GE255.out) | exact HB.out)⟩⟩
   ·rw [if_neg c11] at H
    have c11b0 : decide (400 < (l3.length : Int)) = false := decide_eq_false c11
    have c11b1 : decide (400 < l3.length) = false := decide_eq_false (by omega)
    clear c11
    (first | rw [c11b0] | (simp only [i64_w, i32_w]; rw [c11b0]) | skip)
    by_cases c12 : a2 < 0
    ·rw [if_pos c12] at H
     have c12b0 : decide (a2 < 0) = true := decide_eq_true c12
     clear c12
     have H' := Aside0.mk H
     clear H
     go_wp2
     go_meet
     case rel => exact ⟨_, (true), (by first | rfl | (simp; done) | (simp [*]; done)), H', ⟨by first | omega | exact Nat.le_refl _⟩, ⟨by (with_reducible repeat (first | refine blk_drewN ?_ _ | refine blk_drew ?_ | refine blk_alloc ?_ _)); exact BK255.out⟩, ⟨by repeat (first | (with_reducible first | exact HB.out | apply below_alloc | apply pw_below_drewN | apply below_drew1 | refine below_set ?_ GE255.out) | exact HB.out)⟩⟩
    ·rw [if_neg c12] at H
     have c12b0 : decide (a2 < 0) = false := decide_eq_false c12
     clear c12
     have H' := Aside0.mk H
     clear H
     go_wp2
     go_meet
     case rel => exact ⟨_, (decide (a2 > 1000000)), (by first | rfl | (simp; done) | (simp [*]; done)), H', ⟨by first | omega | exact Nat.le_refl _⟩, ⟨by (with_reducible repeat (first | refine blk_drewN ?_ _ | refine blk_drew ?_ | refine blk_alloc ?_ _)); exact BK255.out⟩, ⟨by repeat (first | (with_reducible first | exact HB.out | apply below_alloc | apply pw_below_drewN | apply below_drew1 | refine below_set ?_ GE255.out) | exact HB.out)⟩⟩
  case rest =>
   clear HC8
   try clear c1
   try clear p2
   try clear c3
   try clear c5
   try clear c7
   try clear c8
   try clear c11
   try clear c11b0
   try clear c11b1
   try clear c12
   try clear c12b0
   obtain ⟨kq, x31_7, rfl, HA, HJ7, BK255, HB⟩ := hcut
   cases kq with
   | zero => exact absurd HA.out (by simp [plenumlaw55_LeadlagFair.j0])
   | succ kj7 =>
    have H := HA.out
    clear HA
    simp only [plenumlaw55_LeadlagFair.j0] at H
    by_cases c13 : x31_7 = true
    ·subst c13
     have H1 : (some true) = some r := by rw [if_pos rfl] at H; exact H
     clear H
     have H := H1
     clear H1
     obtain rfl := Option.some.inj H
     go_wp2
     go_ret
     exact ⟨by first | rfl | (simp [errW_none, errW_some] <;> rfl) | (simp [*, errW_none, errW_some] <;> rfl), by repeat (first | (with_reducible first | exact HB.out | apply below_alloc | apply pw_below_drewN | apply below_drew1 | refine below_set ?_ GE255.out) | exact HB.out)⟩
    ·replace c13 := Bool.eq_false_iff.mpr c13
     subst c13
     have H1 : ((leadlag_New.f kj7 a1 a4).bind fun bt257 => (if bt257.2.2.2 = 0 then (plenumlaw55_LeadlagFair.l0 kj7 a2 l3 a4 0 a0_0 a0_1 bt257.1 bt257.2.1 bt257.2.2.1) else (some ((bt257.1.length : Int) == 0)))) = some r := by rw [if_neg (show ¬ (false = true) by decide)] at H; exact H
     clear H
     have H := H1
     clear H1
     replace H := Option.bind_eq_some_iff.mp H
     obtain ⟨⟨t257, t260, t261, t262⟩, A140, H⟩ := H
     replace H : (if t262 = 0 then (plenumlaw55_LeadlagFair.l0 kj7 a2 l3 a4 0 a0_0 a0_1 t257 t260 t261) else (some ((t257.length : Int) == 0))) = some r := H
     have A14 := Aside0.mk A140
     clear A140
     by_cases c15 : t262 = 0
     ·rw [if_pos c15] at H
      have c15b0 : (t262 == 0) = true := beq_iff_eq.mpr c15
      have c15b1 : (t262 != 0) = false := bne_eq_false_iff_eq.mpr c15
      clear c15
      have H' := Aside0.mk H
      clear H
      go_wp2_with (first | ((with_reducible refine gate_callee (f := 10) rfl ?_); refine goesL_ (some 35) rfl rfl Try.func10 (by kernel_rfl) rfl #[.int .i64 a1, .int .i64 a4] rfl (by (try simp only [List.map_toArray, List.map_cons, List.map_nil]); first | done | rfl | (simp only [List.length_drop, List.length_take]; rfl)) ?_; (with_reducible refine (leadlag_New.calls kj7 a1 a4 t257 t260 t261 t262 _ A14.out).mono ?_); rintro e w16 ⟨v258, rfl, ho0, hb⟩; refine ⟨_, rfl, ?_⟩; have n0_ := Aside0.mk (Kd.R_lower ho0 (below_size (by repeat (first | (with_reducible first | exact HB.out | apply below_alloc | apply pw_below_drewN | apply below_drew1 | refine below_set ?_ GE255.out) | exact HB.out)))); have n1_ := Aside0.mk (blk_below (g := gb255) (o := .cells #[.int .i64 a0_0, .int .i64 a0_1] 23 (0, 0)) (by (with_reducible repeat (first | refine blk_drewN ?_ _ | refine blk_drew ?_ | refine blk_alloc ?_ _)); exact BK255.out) hb); have n2_ := Aside0.mk (below_step (by repeat (first | (with_reducible first | exact HB.out | apply below_alloc | apply pw_below_drewN | apply below_drew1 | refine below_set ?_ GE255.out) | exact HB.out)) hb); clear BK255; clear HB; have HO259 := n0_; have BK255 := n1_; have HB := n2_; clear n0_ n1_ n2_; (try clear hb); (try clear hb2); (try clear hk); (try clear hi); (try clear ho0)) | ((with_reducible refine gate_dst (N := 11) rfl ?_); refine box_event ?hg (N := 11) ?hd (cs := #[.slice none 0 0, .int .i64 0, .int .i64 0]) (t := 32) ?hr ?_; (case hd => rfl); (case hg => rfl); (case hr => first | (go_simp; done) | (go_simp; rfl)); intro gb263 hg w17 hbox hb; have n0_ := Aside0.mk (Kd.R_below (by (with_reducible repeat (first | apply Kd.R_alloc | apply Kd.R_drewN | apply Kd.R_drew)); exact HO259.out) hb); have n1_ := Aside0.mk (blk_below (g := gb255) (o := .cells #[.int .i64 a0_0, .int .i64 a0_1] 23 (0, 0)) (by (with_reducible repeat (first | refine blk_drewN ?_ _ | refine blk_drew ?_ | refine blk_alloc ?_ _)); exact BK255.out) hb); have n2_ := Aside0.mk (below_step (by repeat (first | (with_reducible first | exact HB.out | apply below_alloc | apply pw_below_drewN | apply below_drew1 | refine below_set ?_ GE255.out) | exact HB.out)) hb); have n3_ := Aside0.mk (hbox); have n4_ := Aside0.mk ((by rw [hg]; exact (below_size (by repeat (first | (with_reducible first | exact HB.out | apply below_alloc | apply pw_below_drewN | apply below_drew1 | refine below_set ?_ GE255.out) | exact HB.out))) : w.heap.size ≤ gb263)); have n5_ := Aside0.mk ((by rw [hg]; exact (below_size (by repeat (first | (with_reducible first | exact HB.out | apply below_alloc | apply pw_below_drewN | apply below_drew1 | refine below_set ?_ GE255.out) | exact HB.out))) : w.heap.size ≤ gb263)); have n6_ := Aside0.mk ((by rw [hg]; exact Nat.ne_of_lt (blk_lt (g := gb255) (o := .cells #[.int .i64 a0_0, .int .i64 a0_1] 23 (0, 0)) (by (with_reducible repeat (first | refine blk_drewN ?_ _ | refine blk_drew ?_ | refine blk_alloc ?_ _)); exact BK255.out)) : gb255 ≠ gb263)); have n7_ := Aside0.mk ((by rw [hg]; exact Nat.ne_of_gt (blk_lt (g := gb255) (o := .cells #[.int .i64 a0_0, .int .i64 a0_1] 23 (0, 0)) (by (with_reducible repeat (first | refine blk_drewN ?_ _ | refine blk_drew ?_ | refine blk_alloc ?_ _)); exact BK255.out)) : gb263 ≠ gb255)); clear HO259; clear BK255; clear HB; have HO259 := n0_; have BK255 := n1_; have HB := n2_; have BK263 := n3_; have GW263 := n4_; have GE263 := n5_; have NB255_263 := n6_; have NB263_255 := n7_; clear n0_ n1_ n2_ n3_ n4_ n5_ n6_ n7_; clear hb hbox hg; obtain ⟨Ao18, co18, eo18⟩ := Kd.R_slice HO259.out; subst eo18; have hnb19 := NB263_255.out; have hnc19 := NB255_263.out; have hcz20_0 : w17.cell? ⟨gb263, 0, none⟩ = some (.slice none 0 0) := (blk_cell BK263.out 0).trans rfl; have hcz20_1 : w17.cell? ⟨gb263, 1, none⟩ = some (.int .i64 0) := (blk_cell BK263.out 1).trans rfl; have hcz20_2 : w17.cell? ⟨gb263, 2, none⟩ = some (.int .i64 0) := (blk_cell BK263.out 2).trans rfl; have hfz20_0 := blk_frozen BK263.out 0; have hfz20_1 := blk_frozen BK263.out 1; have hfz20_2 := blk_frozen BK263.out 2))
      go_loopg [13] kj7 (fun kq v13 w' => ∃ (x13_2 : Int) (x264000_2 : List (S62)) (u264000 : Value), v13 = .int .i64 x13_2 ∧ Aside0 (plenumlaw55_LeadlagFair.l0 kq a2 l3 a4 x13_2 a0_0 a0_1 x264000_2 t260 t261 = some r) ∧ Aside0 (kq ≤ kj7) ∧ Aside0 (Kd.R k62 62 w' w.heap.size (fun _ => True) u264000 x264000_2) ∧ Aside0 (w'.heap[gb255]? = some (.cells #[.int .i64 a0_0, .int .i64 a0_1] 23 (0, 0))) ∧ Aside0 (w'.heap[gb263]? = some (.cells #[u264000, .int .i64 t260, .int .i64 t261] 32 (0, 0))) ∧ Aside0 (Below w.heap.size w w'))
      case atStart => exact ⟨(0), (t257), (.slice Ao18 t257.length co18), (by first | rfl | (simp; done) | (simp [*]; done)), H', ⟨Nat.le_refl _⟩, ⟨by (with_reducible repeat (first | apply Kd.R_alloc | apply Kd.R_drewN | apply Kd.R_drew)); exact Kd.R_mono (Kd.R_far (p := ⟨gb263, 2, none⟩) (Kd.R_far (p := ⟨gb263, 1, none⟩) (Kd.R_far (p := ⟨gb263, 0, none⟩) (Kd.R_types HO259.out BK263.out (by decide)) (fun _ hk => hk.2) (.slice Ao18 t257.length co18)) (fun _ hk => hk.2) (.int .i64 t260)) (fun _ hk => hk.2) (.int .i64 t261)) (fun _ hk => trivial)⟩, ⟨by (with_reducible repeat (first | refine blk_drewN ?_ _ | refine blk_drew ?_ | refine blk_alloc ?_ _)); refine blk_far ?_ NB255_263.out _; (with_reducible repeat (first | refine blk_drewN ?_ _ | refine blk_drew ?_ | refine blk_alloc ?_ _)); refine blk_far ?_ NB255_263.out _; (with_reducible repeat (first | refine blk_drewN ?_ _ | refine blk_drew ?_ | refine blk_alloc ?_ _)); refine blk_far ?_ NB255_263.out _; (with_reducible repeat (first | refine blk_drewN ?_ _ | refine blk_drew ?_ | refine blk_alloc ?_ _)); exact BK255.out⟩, ⟨by (with_reducible repeat (first | refine blk_drewN ?_ _ | refine blk_drew ?_ | refine blk_alloc ?_ _)); refine blk_put (cs := #[.slice Ao18 t257.length co18, .int .i64 t260, .int .i64 0]) ?_ 2 _ rfl; (with_reducible repeat (first | refine blk_drewN ?_ _ | refine blk_drew ?_ | refine blk_alloc ?_ _)); refine blk_put (cs := #[.slice Ao18 t257.length co18, .int .i64 0, .int .i64 0]) ?_ 1 _ rfl; (with_reducible repeat (first | refine blk_drewN ?_ _ | refine blk_drew ?_ | refine blk_alloc ?_ _)); refine blk_put (cs := #[.slice none 0 0, .int .i64 0, .int .i64 0]) ?_ 0 _ rfl; (with_reducible repeat (first | refine blk_drewN ?_ _ | refine blk_drew ?_ | refine blk_alloc ?_ _)); exact BK263.out⟩, ⟨by repeat (first | (with_reducible first | exact HB.out | apply below_alloc | apply pw_below_drewN | apply below_drew1 | refine below_set ?_ GE255.out | refine below_set ?_ GE263.out) | exact HB.out)⟩⟩
      case round =>
       clear H'
       try clear c1
       try clear p2
       try clear c3
       try clear c5
       try clear c7
       try clear c8
       try clear c10
       try clear c11
       try clear c11b0
       try clear c11b1
       try clear c12
       try clear c12b0
       try clear c13
       try clear c15
       try clear c15b0
       try clear c15b1
       try clear c19
       try clear hcz20_0
       try clear hcz20_1
       try clear hcz20_2
       try clear hfz20_0
       try clear hfz20_1
       try clear hfz20_2
       try clear p2
       obtain ⟨x13_2, x264000_2, u264000, rfl, HA, HK2, HO_264000, BK255, BK263, HB⟩ := hrel
       cases gk with
       | zero => exact absurd HA.out (by simp [plenumlaw55_LeadlagFair.l0])
       | succ k2 =>
        have H := HA.out
        clear HA
        simp only [plenumlaw55_LeadlagFair.l0] at H
        by_cases c21 : x13_2 < (x264000_2.length : Int)
        ·rw [if_pos c21] at H
         have c21b0 : decide (x13_2 < (x264000_2.length : Int)) = true := decide_eq_true c21
         clear c21
         by_cases c22 : 0 ≤ x13_2
         ·rw [if_pos c22] at H
          have c22b0 : decide (0 ≤ x13_2) = true := decide_eq_true c22
          clear c22
          obtain ⟨y264, hy264⟩ : ∃ y_ : List (S62), y_ = (x264000_2.set (x13_2 : Int).toNat (⟨a2, (rd_T62 x264000_2 x13_2).f1, (rd_T62 x264000_2 x13_2).f2⟩ : S62)) := ⟨_, rfl⟩
          replace H : (plenumlaw55_LeadlagFair.l0 k2 a2 l3 a4 (wrap64 (x13_2 + 1)) a0_0 a0_1 y264 t260 t261) = some r := by first | (rw [hy264]; with_reducible exact H) | (have H2_ := (Option.bind_some _ _).symm.trans H; rw [hy264]; with_reducible exact H2_) | (have H2_ := (Option.bind_some _ _).symm.trans H; with_reducible exact H2_) | with_reducible exact H | (rw [hy264]; exact H) | exact H
          have Ny264 := Aside0.mk hy264
          clear hy264
          have H' := Aside0.mk H
          clear H
          have hnb24 := NB263_255.out
          have hnc24 := NB255_263.out
          have hcz25_0 : wr.cell? ⟨gb263, 0, none⟩ = some (u264000) := (blk_cell BK263.out 0).trans rfl
          have hcz25_1 : wr.cell? ⟨gb263, 1, none⟩ = some (.int .i64 t260) := (blk_cell BK263.out 1).trans rfl
          have hcz25_2 : wr.cell? ⟨gb263, 2, none⟩ = some (.int .i64 t261) := (blk_cell BK263.out 2).trans rfl
          have hfz25_0 := blk_frozen BK263.out 0
          have hfz25_1 := blk_frozen BK263.out 1
          have hfz25_2 := blk_frozen BK263.out 2
          obtain ⟨Ao26, co26, eo26⟩ := Kd.R_slice HO_264000.out
          subst eo26
          have p23 : 0 ≤ (x13_2 : Int) := of_decide_eq_true (by first | (with_reducible assumption) | assumption)
          have q23 : (x13_2 : Int) < ((x264000_2.length : Int) : Int) := of_decide_eq_true (by first | (with_reducible assumption) | assumption)
          obtain ⟨go23, co23, eo23, gb23, gl23, cl23, HG23⟩ := Kd.R_form HO_264000.out (by omega)
          (first | cases eo23 | (injection eo23 with ea_ en_ ec_; (first | subst ea_ | (injection ea_ with ea_; subst ea_)); subst ec_; clear en_))
          have GB23 := Aside0.mk gb23
          have GG23 := Aside0.mk HG23
          clear gb23 gl23 HG23
          obtain ⟨ce23, hcl23, hM23, hcc23, hfr23⟩ := Kd.R_elem HO_264000.out z62 (x13_2 : Int) p23 q23
          obtain rfl := k62_openM hM23
          have hx23_0 : wr.cell? ⟨go23, (x13_2 : Int).toNat * 3, none⟩ = some (.int .i64 ((rd_T62 x264000_2 x13_2).f0)) := hcc23 0 _ rfl
          have hx23_1 : wr.cell? ⟨go23, (x13_2 : Int).toNat * 3 + 1, none⟩ = some (.bool ((rd_T62 x264000_2 x13_2).f1)) := hcc23 1 _ rfl
          have hx23_2 : wr.cell? ⟨go23, (x13_2 : Int).toNat * 3 + 2, none⟩ = some (.bool ((rd_T62 x264000_2 x13_2).f2)) := hcc23 2 _ rfl
          have hf23_0 : wr.frozen? ⟨go23, (x13_2 : Int).toNat * 3, none⟩ = false := hfr23 0
          have hf23_1 : wr.frozen? ⟨go23, (x13_2 : Int).toNat * 3 + 1, none⟩ = false := hfr23 1
          have hf23_2 : wr.frozen? ⟨go23, (x13_2 : Int).toNat * 3 + 2, none⟩ = false := hfr23 2
          clear hcl23 hcc23 hfr23 hM23
          replace p23 := eq_true p23
          replace q23 := eq_true q23
          have HX27 := Aside0.mk (show Kd.R k62 62 wr w.heap.size (fun _ => True) (.slice (some ⟨go23, 0, none⟩) x264000_2.length co26) x264000_2 from (by (with_reducible repeat (first | apply Kd.R_alloc | apply Kd.R_drewN | apply Kd.R_drew)); exact HO_264000.out))
          obtain ⟨ce27, hcl27, hM27, hcc27, hfr27⟩ := Kd.R_elem HX27.out z62 (x13_2 : Int) (of_decide_eq_true (by first | (with_reducible assumption) | assumption)) (by have h_ : (x13_2 : Int) < ((x264000_2.length : Int) : Int) := of_decide_eq_true (by first | (with_reducible assumption) | assumption); first | exact h_ | (have e_ := (Kd.R_reads' HO_264000.out).1; omega) | simpa using h_)
          obtain rfl := k62_openM hM27
          have HP27 := Kd.R_seg HX27.out (x13_2 : Int) (of_decide_eq_true (by first | (with_reducible assumption) | assumption)) (by have h_ : (x13_2 : Int) < ((x264000_2.length : Int) : Int) := of_decide_eq_true (by first | (with_reducible assumption) | assumption); first | exact h_ | (have e_ := (Kd.R_reads' HO_264000.out).1; omega) | simpa using h_) (seg := [.int .i64 a2]) (j := 0) hcl27 hcc27 (show 1 ≤ 3 from by decide) (x' := (⟨a2, (rd_T62 x264000_2 x13_2).f1, (rd_T62 x264000_2 x13_2).f2⟩ : S62)) (k62_mkM _ _ _ (⟨a2, (rd_T62 x264000_2 x13_2).f1, (rd_T62 x264000_2 x13_2).f2⟩ : S62) ) (fun _ hk => hk)
          have hx27_0 := hcc27 0 _ rfl
          (try simp only [show (k62).sz = 3 from rfl, Nat.mul_one, Nat.add_zero] at hx27_0)
          have hf27_0 := hfr27 0
          (try simp only [show (k62).sz = 3 from rfl, Nat.mul_one, Nat.add_zero] at hf27_0)
          clear hcl27 hcc27 hfr27 hM27
          go_wp2_with (first | ((with_reducible refine gate_store (t := 3) (p := 56) rfl ?_); refine store_event (t := 3) (p := 56) (v := ?vo_w28) (w1 := (wr.setCell ⟨go23, (x13_2 : Int).toNat * 3, none⟩ (.int .i64 a2))) ?hg ?ho ?hn ?hr ?_; (case ho => rfl); (case hg => rfl); (case hn => rfl); (case hr => first | (go_simp; done) | (go_simp; rfl)); intro w28 hw; have hg : wr.grownBy w28 (some go23) := (by rw [hw]; exact HP27.2); have hp_ : Kd.R k62 62 w28 w.heap.size (fun _ => True) (.slice (some ⟨go23, 0, none⟩) x264000_2.length co26) y264 := (by rw [hw, Ny264.out]; exact HP27.1); clear HP27; have n0_ := Aside0.mk (hp_); have n1_ := Aside0.mk (blk_grown (g := gb255) (o := .cells #[.int .i64 a0_0, .int .i64 a0_1] 23 (0, 0)) (by (with_reducible repeat (first | refine blk_drewN ?_ _ | refine blk_drew ?_ | refine blk_alloc ?_ _)); exact BK255.out) hg (Kd.R_ne HO_264000.out BK255.out (by decide))); have n2_ := Aside0.mk (blk_grown (g := gb263) (o := .cells #[.slice (some ⟨go23, 0, none⟩) x264000_2.length co26, .int .i64 t260, .int .i64 t261] 32 (0, 0)) (by (with_reducible repeat (first | refine blk_drewN ?_ _ | refine blk_drew ?_ | refine blk_alloc ?_ _)); exact BK263.out) hg (Kd.R_ne HO_264000.out BK263.out (by decide))); have n3_ := Aside0.mk ((by rw [hw]; exact below_set (HB.out) GB23.out : Below w.heap.size w w28)); clear HO_264000; clear BK255; clear BK263; clear HB; have HO_264000 := n0_; have BK255 := n1_; have BK263 := n2_; have HB := n3_; clear n0_ n1_ n2_ n3_; clear hg hw hp_))
          go_roundg k2
          case measure => have := HJ7.out; have := HK2.out; omega
          case rel => exact ⟨(wrap64 (x13_2 + 1)), (y264), (.slice (some ⟨go23, 0, none⟩) x264000_2.length co26), (by first | rfl | (simp; done) | (simp [*]; done)), H', ⟨by have := HJ7.out; have := HK2.out; omega⟩, ⟨by (with_reducible repeat (first | apply Kd.R_alloc | apply Kd.R_drewN | apply Kd.R_drew)); exact HO_264000.out⟩, ⟨by (with_reducible repeat (first | refine blk_drewN ?_ _ | refine blk_drew ?_ | refine blk_alloc ?_ _)); exact BK255.out⟩, ⟨by (with_reducible repeat (first | refine blk_drewN ?_ _ | refine blk_drew ?_ | refine blk_alloc ?_ _)); exact BK263.out⟩, ⟨by repeat (first | (with_reducible first | exact HB.out | apply below_alloc | apply pw_below_drewN | apply below_drew1 | refine below_set ?_ GE255.out | refine below_set ?_ GE263.out) | exact HB.out)⟩⟩
         ·rw [if_neg c22] at H
          exact absurd H (by simp)
        ·rw [if_neg c21] at H
         have c21b0 : decide (x13_2 < (x264000_2.length : Int)) = false := decide_eq_false c21
         clear c21
         replace H := Option.bind_eq_some_iff.mp H
         obtain ⟨⟨t265, t266⟩, A290, H⟩ := H
         replace H : ((leadlag_Play.f k2 t265 t266 x264000_2 t260 t261 l3 a4).bind fun bt267 => (if bt267.2 = 0 then (plenumlaw55_LeadlagFair.l1 k2 l3 bt267.1 0 a0_0 a0_1) else (some ((bt267.1.length : Int) == 0)))) = some r := H
         have A29 := Aside0.mk A290
         clear A290
         replace H := Option.bind_eq_some_iff.mp H
         obtain ⟨⟨t267, t270⟩, A300, H⟩ := H
         replace H : (if t270 = 0 then (plenumlaw55_LeadlagFair.l1 k2 l3 t267 0 a0_0 a0_1) else (some ((t267.length : Int) == 0))) = some r := H
         have A30 := Aside0.mk A300
         clear A300
         by_cases c31 : t270 = 0
         ·rw [if_pos c31] at H
          have c31b0 : (t270 == 0) = true := beq_iff_eq.mpr c31
          have c31b1 : (t270 != 0) = false := bne_eq_false_iff_eq.mpr c31
          clear c31
          have H' := Aside0.mk H
          clear H
          have hnb32 := NB263_255.out
          have hnc32 := NB255_263.out
          have hcz33_0 : wr.cell? ⟨gb263, 0, none⟩ = some (u264000) := (blk_cell BK263.out 0).trans rfl
          have hcz33_1 : wr.cell? ⟨gb263, 1, none⟩ = some (.int .i64 t260) := (blk_cell BK263.out 1).trans rfl
          have hcz33_2 : wr.cell? ⟨gb263, 2, none⟩ = some (.int .i64 t261) := (blk_cell BK263.out 2).trans rfl
          have hfz33_0 := blk_frozen BK263.out 0
          have hfz33_1 := blk_frozen BK263.out 1
          have hfz33_2 := blk_frozen BK263.out 2
          obtain ⟨Ao34, co34, eo34⟩ := Kd.R_slice HO_264000.out
          subst eo34
          try go_wp2
          have n0_ := Aside0.mk (Kd.R_drew HO_264000.out)
          have n1_ := Aside0.mk (blk_drew BK255.out)
          have n2_ := Aside0.mk (blk_drew BK263.out)
          have n3_ := Aside0.mk (below_drew1 HB.out)
          clear HO_264000
          clear BK255
          clear BK263
          clear HB
          have HO_264000 := n0_
          have BK255 := n1_
          have BK263 := n2_
          have HB := n3_
          clear n0_ n1_ n2_ n3_
          refine start_ (n := 11) (S := fun w' => w'.cell? ⟨gb255, 0, none⟩ = some (.int .i64 a0_0) ∧ w'.cell? ⟨gb255, 1, none⟩ = some (.int .i64 a0_1) ∧ w'.cell? ⟨gb263, 0, none⟩ = some (.slice Ao34 x264000_2.length co34) ∧ w'.cell? ⟨gb263, 1, none⟩ = some (.int .i64 t260) ∧ w'.cell? ⟨gb263, 2, none⟩ = some (.int .i64 t261)) (ds := []) #[false, false, false, false, false, false, false, false, false, false, false] (by kernel_rfl) rfl rfl ⟨(blk_cell BK255.out 0).trans rfl, (blk_cell BK255.out 1).trans rfl, (blk_cell BK263.out 0).trans rfl, (blk_cell BK263.out 1).trans rfl, (blk_cell BK263.out 2).trans rfl⟩ (fun hHeld => ?_); refine with_tabW plenumlaw55_LeadlagFair.tab12 plenumlaw55_LeadlagFair.bits12 (fun HT_ HW_ => ?_)
          generalize wr.drew = w35 at HO_264000 BK255 BK263 HB hHeld ⊢
          refine pure_ (i := 3) (N := some 61) (v := ?_) (a' := ?_) #[false, false, false, true, false, false, false, false, false, false, false] rfl rfl (any_of HT_.out (by kernel_rfl)) (fun _ _ _ h => h) (Or.inl ⟨by rfl, ?_⟩) ?_ ?_
          rotate_left
          ·intro w'
           go_simp
           with_reducible rfl
          rotate_left
          ·simp only [Act.put, List.setIfInBounds_toArray, List.set_cons_zero, List.set_cons_succ, i64_w, i32_w]
           rfl
          refine pure_ (i := 4) (N := some 62) (v := ?_) (a' := ?_) #[false, false, false, true, true, false, false, false, false, false, false] rfl rfl (any_of HT_.out (by kernel_rfl)) (fun _ _ _ h => h) (Or.inl ⟨by rfl, ?_⟩) ?_ ?_
          rotate_left
          ·intro w'
           go_simp
           with_reducible rfl
          rotate_left
          ·simp only [Act.put, List.setIfInBounds_toArray, List.set_cons_zero, List.set_cons_succ, i64_w, i32_w]
           rfl
          refine take_ (i := 0) (N := some 58) (v := ?_) (a' := ?_) #[true, false, false, true, true, false, false, false, false, false, false] rfl rfl (take_ofW HT_.out HW_.out (by kernel_rfl)) (fun _ _ _ h => h) (Or.inl ⟨by rfl, ?_⟩) hHeld ?_ ?_
          rotate_left
          ·rintro w' ⟨s0, s1, s2, s3, s4⟩
           go_simp
           with_reducible rfl
          rotate_left
          ·simp only [Act.put, List.setIfInBounds_toArray, List.set_cons_zero, List.set_cons_succ, i64_w, i32_w]
           rfl
          refine take_ (i := 2) (N := some 60) (v := ?_) (a' := ?_) #[true, false, true, true, true, false, false, false, false, false, false] rfl rfl (take_ofW HT_.out HW_.out (by kernel_rfl)) (fun _ _ _ h => h) (Or.inl ⟨by rfl, ?_⟩) hHeld ?_ ?_
          rotate_left
          ·rintro w' ⟨s0, s1, s2, s3, s4⟩
           go_simp
           with_reducible rfl
          rotate_left
          ·simp only [Act.put, List.setIfInBounds_toArray, List.set_cons_zero, List.set_cons_succ, i64_w, i32_w]
           rfl
          refine one_ (i := 1) (N := some 59) #[true, true, true, true, true, false, false, false, false, false, false] rfl rfl (one_of HT_.out (by kernel_rfl)) (by decide) (fun K hK => ?_)
          refine goes_ Try.func15 (by kernel_rfl) rfl #[.agg #[.int .i64 a0_0, .int .i64 a0_1]] (by rfl) rfl rfl (by (try simp only [List.map_toArray, List.map_cons, List.map_nil]); first | done | rfl | (simp only [List.length_drop, List.length_take]; rfl)) ?_
          with_reducible refine (plenumlaw55_rule.calls a0_0 a0_1 t265 t266 _ A29.out).mono ?_
          rintro e w36 ⟨rfl, hb⟩
          refine ⟨_, rfl, ?_⟩
          have n0_ := Aside0.mk (Kd.R_below (by (with_reducible repeat (first | apply Kd.R_alloc | apply Kd.R_drewN | apply Kd.R_drew)); exact HO_264000.out) hb)
          have n1_ := Aside0.mk (blk_below (g := gb255) (o := .cells #[.int .i64 a0_0, .int .i64 a0_1] 23 (0, 0)) (by (with_reducible repeat (first | refine blk_drewN ?_ _ | refine blk_drew ?_ | refine blk_alloc ?_ _)); exact BK255.out) hb)
          have n2_ := Aside0.mk (blk_below (g := gb263) (o := .cells #[.slice Ao34 x264000_2.length co34, .int .i64 t260, .int .i64 t261] 32 (0, 0)) (by (with_reducible repeat (first | refine blk_drewN ?_ _ | refine blk_drew ?_ | refine blk_alloc ?_ _)); exact BK263.out) hb)
          have n3_ := Aside0.mk (below_step (by repeat (first | (with_reducible first | exact HB.out | apply below_alloc | apply pw_below_drewN | apply below_drew1 | refine below_set ?_ GE255.out | refine below_set ?_ GE263.out) | exact HB.out)) hb)
          clear HO_264000
          clear BK255
          clear BK263
          clear HB
          have HO_264000 := n0_
          have BK255 := n1_
          have BK263 := n2_
          have HB := n3_
          clear n0_ n1_ n2_ n3_
          (try clear hb)
          (try clear hb2)
          (try clear hk)
          (try clear hi)
          refine hK.out _ _ ⟨(blk_cell BK255.out 0).trans rfl, (blk_cell BK255.out 1).trans rfl, (blk_cell BK263.out 0).trans rfl, (blk_cell BK263.out 1).trans rfl, (blk_cell BK263.out 2).trans rfl⟩ (fun hHeld => ?_)
          clear hK K
          refine norm_ (a' := ?_) ?_ ?_
          rotate_left
          ·show Act.put _ (some 59) _ = _
           simp only [Act.put, List.setIfInBounds_toArray, List.set_cons_zero, List.set_cons_succ, i64_w, i32_w]
           rfl
          refine one_ (i := 5) (N := some 63) #[true, true, true, true, true, true, false, false, false, false, false] rfl rfl (one_of HT_.out (by kernel_rfl)) (by decide) (fun K hK => ?_)
          refine goes_ Try.func26 (by kernel_rfl) rfl #[.agg #[.int .i64 t265, .int .i64 t266], .agg #[.slice Ao34 x264000_2.length co34, .int .i64 t260, .int .i64 t261], .slice A3 l3.length c3, .int .i64 a4] (by rfl) rfl rfl (by (try simp only [List.map_toArray, List.map_cons, List.map_nil]); first | done | rfl | (simp only [List.length_drop, List.length_take]; rfl)) ?_
          with_reducible refine (leadlag_Play.calls k2 t265 t266 _ _ x264000_2 t260 t261 _ _ l3 a4 t267 t270 _ ?side1 ?side2 ?side3 ?side4 A30.out).mono ?_
          (case side1 => repeat (first | exact (Kd.R_reads' HO_264000.out).2.2 | (with_reducible refine Kd.C_alloc ?_ _) | (with_reducible refine Kd.C_drewN ?_ _) | (with_reducible refine Kd.C_drew ?_)))
          (case side2 => exact (Kd.R_reads' HO_264000.out).2.1)
          (case side3 => repeat (first | exact (Kd.C_below HR3.out HB.out) | (with_reducible refine Kd.C_alloc ?_ _) | (with_reducible refine Kd.C_drewN ?_ _) | (with_reducible refine Kd.C_drew ?_)))
          (case side4 => exact HC3.out)
          rintro e w37 ⟨v268, rfl, ho0, hb⟩
          refine ⟨_, rfl, ?_⟩
          have n0_ := Aside0.mk (Kd.R_below (by (with_reducible repeat (first | apply Kd.R_alloc | apply Kd.R_drewN | apply Kd.R_drew)); exact HO_264000.out) hb)
          have n1_ := Aside0.mk (Kd.S_lower (Kd.S_newB (Kd.S_new' ho0 (Kd.R_lt (by (with_reducible repeat (first | apply Kd.R_alloc | apply Kd.R_drewN | apply Kd.R_drew)); exact HO_264000.out))) (g := gb263) (o := .cells #[.slice Ao34 x264000_2.length co34, .int .i64 t260, .int .i64 t261] 32 (0, 0)) (by (with_reducible repeat (first | refine blk_drewN ?_ _ | refine blk_drew ?_ | refine blk_alloc ?_ _)); exact BK263.out)) (below_size (by repeat (first | (with_reducible first | exact HB.out | apply below_alloc | apply pw_below_drewN | apply below_drew1 | refine below_set ?_ GE255.out | refine below_set ?_ GE263.out) | exact HB.out))))
          have n2_ := Aside0.mk (blk_below (g := gb255) (o := .cells #[.int .i64 a0_0, .int .i64 a0_1] 23 (0, 0)) (by (with_reducible repeat (first | refine blk_drewN ?_ _ | refine blk_drew ?_ | refine blk_alloc ?_ _)); exact BK255.out) hb)
          have n3_ := Aside0.mk (blk_below (g := gb263) (o := .cells #[.slice Ao34 x264000_2.length co34, .int .i64 t260, .int .i64 t261] 32 (0, 0)) (by (with_reducible repeat (first | refine blk_drewN ?_ _ | refine blk_drew ?_ | refine blk_alloc ?_ _)); exact BK263.out) hb)
          have n4_ := Aside0.mk (below_step (by repeat (first | (with_reducible first | exact HB.out | apply below_alloc | apply pw_below_drewN | apply below_drew1 | refine below_set ?_ GE255.out | refine below_set ?_ GE263.out) | exact HB.out)) hb)
          clear HO_264000
          clear BK255
          clear BK263
          clear HB
          have HO_264000 := n0_
          have HO269 := n1_
          have BK255 := n2_
          have BK263 := n3_
          have HB := n4_
          clear n0_ n1_ n2_ n3_ n4_
          (try clear hb)
          (try clear hb2)
          (try clear hk)
          (try clear hi)
          (try clear ho0)
          refine hK.out _ _ ⟨(blk_cell BK255.out 0).trans rfl, (blk_cell BK255.out 1).trans rfl, (blk_cell BK263.out 0).trans rfl, (blk_cell BK263.out 1).trans rfl, (blk_cell BK263.out 2).trans rfl⟩ (fun hHeld => ?_)
          clear hK K
          refine norm_ (a' := ?_) ?_ ?_
          rotate_left
          ·show Act.put _ (some 63) _ = _
           simp only [Act.put, List.setIfInBounds_toArray, List.set_cons_zero, List.set_cons_succ, i64_w, i32_w]
           rfl
          refine pure_ (i := 6) (N := some 57) (v := ?_) (a' := ?_) #[true, true, true, true, true, true, true, false, false, false, false] rfl rfl (any_of HT_.out (by kernel_rfl)) (fun _ _ _ h => h) (Or.inl ⟨by rfl, ?_⟩) ?_ ?_
          rotate_left
          ·intro w'
           go_simp
           with_reducible rfl
          rotate_left
          ·simp only [Act.put, List.setIfInBounds_toArray, List.set_cons_zero, List.set_cons_succ, i64_w, i32_w]
           rfl
          refine pure_ (i := 7) (N := some 64) (v := ?_) (a' := ?_) #[true, true, true, true, true, true, true, true, false, false, false] rfl rfl (any_of HT_.out (by kernel_rfl)) (fun _ _ _ h => h) (Or.inl ⟨by rfl, ?_⟩) ?_ ?_
          rotate_left
          ·intro w'
           go_simp
           with_reducible rfl
          rotate_left
          ·simp only [Act.put, List.setIfInBounds_toArray, List.set_cons_zero, List.set_cons_succ, i64_w, i32_w]
           rfl
          refine pure_ (i := 8) (N := some 65) (v := ?_) (a' := ?_) #[true, true, true, true, true, true, true, true, true, false, false] rfl rfl (any_of HT_.out (by kernel_rfl)) (fun _ _ _ h => h) (Or.inl ⟨by rfl, ?_⟩) ?_ ?_
          rotate_left
          ·intro w'
           go_simp
           with_reducible rfl
          rotate_left
          ·simp only [Act.put, List.setIfInBounds_toArray, List.set_cons_zero, List.set_cons_succ, i64_w, i32_w]
           rfl
          refine pure_ (i := 9) (N := some 14) (v := ?_) (a' := ?_) #[true, true, true, true, true, true, true, true, true, true, false] rfl rfl (any_of HT_.out (by kernel_rfl)) (fun _ _ _ h => h) (Or.inl ⟨by rfl, ?_⟩) ?_ ?_
          rotate_left
          ·intro w'
           go_simp
           with_reducible rfl
          rotate_left
          ·simp only [Act.put, List.setIfInBounds_toArray, List.set_cons_zero, List.set_cons_succ, i64_w, i32_w]
           rfl
          refine pure_ (i := 10) (N := some 15) (v := ?_) (a' := ?_) #[true, true, true, true, true, true, true, true, true, true, true] rfl rfl (any_of HT_.out (by kernel_rfl)) (fun _ _ _ h => h) (Or.inl ⟨by rfl, ?_⟩) ?_ ?_
          rotate_left
          ·intro w'
           go_simp
           with_reducible rfl
          rotate_left
          ·simp only [Act.put, List.setIfInBounds_toArray, List.set_cons_zero, List.set_cons_succ, i64_w, i32_w]
           rfl
          refine done_ (done_of HT_.out (by kernel_rfl)) ?_
          try go_wp2
          go_loopg [16] k2 (fun kq v16 w' => ∃ (x16_3 : Int), v16 = .int .i64 x16_3 ∧ Aside0 (plenumlaw55_LeadlagFair.l1 kq l3 t267 x16_3 a0_0 a0_1 = some r) ∧ Aside0 (kq ≤ k2) ∧ Aside0 (Kd.S k32 32 w' w.heap.size (fun k_ => some k_ ≠ ((.slice Ao34 x264000_2.length co34) : Value).ownBlock ∧ k_ ≠ gb263) v268 t267) ∧ Aside0 (Kd.R k62 62 w' w.heap.size (fun _ => True) (.slice Ao34 x264000_2.length co34) x264000_2) ∧ Aside0 (w'.heap[gb255]? = some (.cells #[.int .i64 a0_0, .int .i64 a0_1] 23 (0, 0))) ∧ Aside0 (w'.heap[gb263]? = some (.cells #[(.slice Ao34 x264000_2.length co34), .int .i64 t260, .int .i64 t261] 32 (0, 0))) ∧ Aside0 (Below w.heap.size w w'))
          case atStart => exact ⟨(0), (by first | rfl | (simp; done) | (simp [*]; done)), H', ⟨Nat.le_refl _⟩, ⟨by (with_reducible repeat (first | apply Kd.S_alloc | apply Kd.S_drewN | apply Kd.S_drew)); exact Kd.S_mono HO269.out (fun _ hk => ⟨hk.1.2, hk.2⟩)⟩, ⟨by (with_reducible repeat (first | apply Kd.R_alloc | apply Kd.R_drewN | apply Kd.R_drew)); exact HO_264000.out⟩, ⟨by (with_reducible repeat (first | refine blk_drewN ?_ _ | refine blk_drew ?_ | refine blk_alloc ?_ _)); exact BK255.out⟩, ⟨by (with_reducible repeat (first | refine blk_drewN ?_ _ | refine blk_drew ?_ | refine blk_alloc ?_ _)); exact BK263.out⟩, ⟨by repeat (first | (with_reducible first | exact HB.out | apply below_alloc | apply pw_below_drewN | apply below_drew1 | refine below_set ?_ GE255.out | refine below_set ?_ GE263.out) | exact HB.out)⟩⟩
          case round =>
           clear H'
           try clear c1
           try clear c2
           try clear p2
           try clear q2
           try clear hx2
           try clear c3
           try clear c5
           try clear p6
           try clear c7
           try clear c8
           try clear c10
           try clear c11
           try clear c11b0
           try clear c11b1
           try clear c12
           try clear c12b0
           try clear c13
           try clear c15
           try clear c15b0
           try clear c15b1
           try clear c19
           try clear c21
           try clear c21b0
           try clear c22
           try clear c22b0
           try clear c23
           try clear p23
           try clear q23
           try clear hx23
           try clear hf23
           try clear c24
           try clear c26
           try clear c27
           try clear hx27
           try clear hf27
           try clear c31
           try clear c31b0
           try clear c31b1
           try clear c32
           try clear hcz20_0
           try clear hcz20_1
           try clear hcz20_2
           try clear hcz25_0
           try clear hcz25_1
           try clear hcz25_2
           try clear hcz33_0
           try clear hcz33_1
           try clear hcz33_2
           try clear hfz20_0
           try clear hfz20_1
           try clear hfz20_2
           try clear hfz25_0
           try clear hfz25_1
           try clear hfz25_2
           try clear hfz33_0
           try clear hfz33_1
           try clear hfz33_2
           try clear hx23_0
           try clear hx23_1
           try clear hx23_2
           try clear hx27_0
           try clear p2
           try clear p23
           try clear q23
           obtain ⟨x16_3, rfl, HA, HK3, HO_14, HO_264000, BK255, BK263, HB⟩ := hrel
           cases gk with
           | zero => exact absurd HA.out (by simp [plenumlaw55_LeadlagFair.l1])
           | succ k3 =>
            have H := HA.out
            clear HA
            simp only [plenumlaw55_LeadlagFair.l1] at H
            by_cases c38 : x16_3 < (t267.length : Int)
            ·rw [if_pos c38] at H
             have c38b0 : decide (x16_3 < (t267.length : Int)) = true := decide_eq_true c38
             clear c38
             by_cases c39 : 0 ≤ x16_3
             ·rw [if_pos c39] at H
              have c39b0 : decide (0 ≤ x16_3) = true := decide_eq_true c39
              clear c39
              replace H := Option.bind_eq_some_iff.mp H
              obtain ⟨⟨t272, t273⟩, A400, H⟩ := H
              replace H : (if t273 = 0 then (if t272 > (wrap64 (a0_0 + 1)) then (some false) else (plenumlaw55_LeadlagFair.l1 k3 l3 t267 (wrap64 (x16_3 + 1)) a0_0 a0_1)) else (some false)) = some r := H
              have A40 := Aside0.mk A400
              clear A400
              by_cases c41 : t273 = 0
              ·rw [if_pos c41] at H
               have c41b0 : (t273 == 0) = true := beq_iff_eq.mpr c41
               have c41b1 : (t273 != 0) = false := bne_eq_false_iff_eq.mpr c41
               clear c41
               by_cases c42 : t272 > (wrap64 (a0_0 + 1))
               ·rw [if_pos c42] at H
                have c42b0 : decide ((wrap64 (a0_0 + 1)) < t272) = true := decide_eq_true c42
                clear c42
                obtain rfl := Option.some.inj H
                obtain ⟨Ao43, co43, eo43⟩ := Kd.S_slice HO_14.out
                subst eo43
                have p271 : 0 ≤ (x16_3 : Int) := of_decide_eq_true (by first | (with_reducible assumption) | assumption)
                have q271 : x16_3 < (t267.length : Int) := of_decide_eq_true (by first | (with_reducible assumption) | assumption)
                obtain ⟨ad271, A271_0, c271_0, e271, hx271_0, hx271_1, hx271_2, hl271_0, hi271_0⟩ := at_T32 (Kd.S_reads' HO_14.out).2.2 x16_3 p271 q271
                cases e271
                obtain ⟨ce271, hce271, hMe271, hcc271⟩ := Kd.S_get HO_14.out z32 x16_3 p271 (by first | exact q271 | exact of_decide_eq_true (by first | (with_reducible assumption) | assumption) | (have e_ := (Kd.S_reads' HO_14.out).1; omega))
                obtain ⟨ve271_0, rfl, ge271_0⟩ := k32_openM hMe271
                have hv271_0 := hcc271 0 _ rfl
                rw [Nat.add_zero] at hv271_0
                replace hv271_0 := Option.some.inj (hv271_0.symm.trans hx271_0)
                rw [hv271_0] at ge271_0
                have HL271_0 := Aside0.mk (show Kd.R k62 62 _ _ _ _ ((rd_T32 t267 x16_3).f0) from ge271_0)
                clear hv271_0 ge271_0
                clear hcc271 hce271
                have HR271_0 := Aside0.mk hi271_0
                have HC271_0 := Aside0.mk hl271_0
                clear hi271_0 hl271_0
                replace p271 := eq_true p271
                replace q271 := eq_true q271
                go_wp2_with (first | ((with_reducible refine gate_callee (f := 12) rfl ?_); refine goesL_ (some 82) rfl rfl Try.func12 (by kernel_rfl) rfl #[.agg #[.slice A271_0 ((rd_T32 t267 x16_3).f0).length c271_0, .int .i64 ((rd_T32 t267 x16_3).f1), .int .i64 ((rd_T32 t267 x16_3).f2)]] rfl (by (try simp only [List.map_toArray, List.map_cons, List.map_nil]); first | done | rfl | (simp only [List.length_drop, List.length_take]; rfl)) ?_; (with_reducible refine (leadlag_Spread.calls k3 _ _ ((rd_T32 t267 x16_3).f0) ((rd_T32 t267 x16_3).f1) ((rd_T32 t267 x16_3).f2) t272 t273 _ ?side1 ?side2 A40.out).mono ?_); (case side1 => repeat (first | exact (by repeat (first | (with_reducible exact HR271_0.out) | (with_reducible refine Kd.C_alloc ?_ _) | (with_reducible refine Kd.C_drewN ?_ _) | (with_reducible refine Kd.C_drew ?_) | exact HR271_0.out)) | (with_reducible refine Kd.C_alloc ?_ _) | (with_reducible refine Kd.C_drewN ?_ _) | (with_reducible refine Kd.C_drew ?_))); (case side2 => exact HC271_0.out); rintro e w44 ⟨rfl, hb⟩; refine ⟨_, rfl, ?_⟩; have n0_ := Aside0.mk (Kd.S_below (by (with_reducible repeat (first | apply Kd.S_alloc | apply Kd.S_drewN | apply Kd.S_drew)); exact HO_14.out) hb); have n1_ := Aside0.mk (Kd.R_below (by (with_reducible repeat (first | apply Kd.R_alloc | apply Kd.R_drewN | apply Kd.R_drew)); exact HO_264000.out) hb); have n2_ := Aside0.mk (Kd.R_below (by (with_reducible repeat (first | apply Kd.R_alloc | apply Kd.R_drewN | apply Kd.R_drew)); exact HL271_0.out) hb); have n3_ := Aside0.mk (blk_below (g := gb255) (o := .cells #[.int .i64 a0_0, .int .i64 a0_1] 23 (0, 0)) (by (with_reducible repeat (first | refine blk_drewN ?_ _ | refine blk_drew ?_ | refine blk_alloc ?_ _)); exact BK255.out) hb); have n4_ := Aside0.mk (blk_below (g := gb263) (o := .cells #[.slice Ao34 x264000_2.length co34, .int .i64 t260, .int .i64 t261] 32 (0, 0)) (by (with_reducible repeat (first | refine blk_drewN ?_ _ | refine blk_drew ?_ | refine blk_alloc ?_ _)); exact BK263.out) hb); have n5_ := Aside0.mk (Kd.C_below (by repeat (first | (with_reducible exact HR271_0.out) | (with_reducible refine Kd.C_alloc ?_ _) | (with_reducible refine Kd.C_drewN ?_ _) | (with_reducible refine Kd.C_drew ?_) | exact HR271_0.out)) hb); have n6_ := Aside0.mk (below_step (by repeat (first | (with_reducible first | exact HB.out | apply below_alloc | apply pw_below_drewN | apply below_drew1 | refine below_set ?_ GE255.out | refine below_set ?_ GE263.out) | exact HB.out)) hb); clear HO_14; clear HO_264000; clear HL271_0; clear BK255; clear BK263; clear HR271_0; clear HB; have HO_14 := n0_; have HO_264000 := n1_; have HL271_0 := n2_; have BK255 := n3_; have BK263 := n4_; have HR271_0 := n5_; have HB := n6_; clear n0_ n1_ n2_ n3_ n4_ n5_ n6_; (try clear hb); (try clear hb2); (try clear hk); (try clear hi); have hnb45 := NB255_263.out; have hnc45 := NB263_255.out; have hcz46_0 : w44.cell? ⟨gb255, 0, none⟩ = some (.int .i64 a0_0) := (blk_cell BK255.out 0).trans rfl; have hcz46_1 : w44.cell? ⟨gb255, 1, none⟩ = some (.int .i64 a0_1) := (blk_cell BK255.out 1).trans rfl; have hfz46_0 := blk_frozen BK255.out 0; have hfz46_1 := blk_frozen BK255.out 1))
                go_ret
                exact ⟨by first | rfl | (simp [errW_none, errW_some] <;> rfl) | (simp [*, errW_none, errW_some] <;> rfl), by repeat (first | (with_reducible first | exact HB.out | apply below_alloc | apply pw_below_drewN | apply below_drew1 | refine below_set ?_ GE255.out | refine below_set ?_ GE263.out) | exact HB.out)⟩
               ·rw [if_neg c42] at H
                have c42b0 : decide ((wrap64 (a0_0 + 1)) < t272) = false := decide_eq_false c42
                clear c42
                have H' := Aside0.mk H
                clear H
                obtain ⟨Ao47, co47, eo47⟩ := Kd.S_slice HO_14.out
                subst eo47
                have p271 : 0 ≤ (x16_3 : Int) := of_decide_eq_true (by first | (with_reducible assumption) | assumption)
                have q271 : x16_3 < (t267.length : Int) := of_decide_eq_true (by first | (with_reducible assumption) | assumption)
                obtain ⟨ad271, A271_0, c271_0, e271, hx271_0, hx271_1, hx271_2, hl271_0, hi271_0⟩ := at_T32 (Kd.S_reads' HO_14.out).2.2 x16_3 p271 q271
                cases e271
                obtain ⟨ce271, hce271, hMe271, hcc271⟩ := Kd.S_get HO_14.out z32 x16_3 p271 (by first | exact q271 | exact of_decide_eq_true (by first | (with_reducible assumption) | assumption) | (have e_ := (Kd.S_reads' HO_14.out).1; omega))
                obtain ⟨ve271_0, rfl, ge271_0⟩ := k32_openM hMe271
                have hv271_0 := hcc271 0 _ rfl
                rw [Nat.add_zero] at hv271_0
                replace hv271_0 := Option.some.inj (hv271_0.symm.trans hx271_0)
                rw [hv271_0] at ge271_0
                have HL271_0 := Aside0.mk (show Kd.R k62 62 _ _ _ _ ((rd_T32 t267 x16_3).f0) from ge271_0)
                clear hv271_0 ge271_0
                clear hcc271 hce271
                have HR271_0 := Aside0.mk hi271_0
                have HC271_0 := Aside0.mk hl271_0
                clear hi271_0 hl271_0
                replace p271 := eq_true p271
                replace q271 := eq_true q271
                go_wp2_with (first | ((with_reducible refine gate_callee (f := 12) rfl ?_); refine goesL_ (some 82) rfl rfl Try.func12 (by kernel_rfl) rfl #[.agg #[.slice A271_0 ((rd_T32 t267 x16_3).f0).length c271_0, .int .i64 ((rd_T32 t267 x16_3).f1), .int .i64 ((rd_T32 t267 x16_3).f2)]] rfl (by (try simp only [List.map_toArray, List.map_cons, List.map_nil]); first | done | rfl | (simp only [List.length_drop, List.length_take]; rfl)) ?_; (with_reducible refine (leadlag_Spread.calls k3 _ _ ((rd_T32 t267 x16_3).f0) ((rd_T32 t267 x16_3).f1) ((rd_T32 t267 x16_3).f2) t272 t273 _ ?side1 ?side2 A40.out).mono ?_); (case side1 => repeat (first | exact (by repeat (first | (with_reducible exact HR271_0.out) | (with_reducible refine Kd.C_alloc ?_ _) | (with_reducible refine Kd.C_drewN ?_ _) | (with_reducible refine Kd.C_drew ?_) | exact HR271_0.out)) | (with_reducible refine Kd.C_alloc ?_ _) | (with_reducible refine Kd.C_drewN ?_ _) | (with_reducible refine Kd.C_drew ?_))); (case side2 => exact HC271_0.out); rintro e w48 ⟨rfl, hb⟩; refine ⟨_, rfl, ?_⟩; have n0_ := Aside0.mk (Kd.S_below (by (with_reducible repeat (first | apply Kd.S_alloc | apply Kd.S_drewN | apply Kd.S_drew)); exact HO_14.out) hb); have n1_ := Aside0.mk (Kd.R_below (by (with_reducible repeat (first | apply Kd.R_alloc | apply Kd.R_drewN | apply Kd.R_drew)); exact HO_264000.out) hb); have n2_ := Aside0.mk (Kd.R_below (by (with_reducible repeat (first | apply Kd.R_alloc | apply Kd.R_drewN | apply Kd.R_drew)); exact HL271_0.out) hb); have n3_ := Aside0.mk (blk_below (g := gb255) (o := .cells #[.int .i64 a0_0, .int .i64 a0_1] 23 (0, 0)) (by (with_reducible repeat (first | refine blk_drewN ?_ _ | refine blk_drew ?_ | refine blk_alloc ?_ _)); exact BK255.out) hb); have n4_ := Aside0.mk (blk_below (g := gb263) (o := .cells #[.slice Ao34 x264000_2.length co34, .int .i64 t260, .int .i64 t261] 32 (0, 0)) (by (with_reducible repeat (first | refine blk_drewN ?_ _ | refine blk_drew ?_ | refine blk_alloc ?_ _)); exact BK263.out) hb); have n5_ := Aside0.mk (Kd.C_below (by repeat (first | (with_reducible exact HR271_0.out) | (with_reducible refine Kd.C_alloc ?_ _) | (with_reducible refine Kd.C_drewN ?_ _) | (with_reducible refine Kd.C_drew ?_) | exact HR271_0.out)) hb); have n6_ := Aside0.mk (below_step (by repeat (first | (with_reducible first | exact HB.out | apply below_alloc | apply pw_below_drewN | apply below_drew1 | refine below_set ?_ GE255.out | refine below_set ?_ GE263.out) | exact HB.out)) hb); clear HO_14; clear HO_264000; clear HL271_0; clear BK255; clear BK263; clear HR271_0; clear HB; have HO_14 := n0_; have HO_264000 := n1_; have HL271_0 := n2_; have BK255 := n3_; have BK263 := n4_; have HR271_0 := n5_; have HB := n6_; clear n0_ n1_ n2_ n3_ n4_ n5_ n6_; (try clear hb); (try clear hb2); (try clear hk); (try clear hi); have hnb49 := NB255_263.out; have hnc49 := NB263_255.out; have hcz50_0 : w48.cell? ⟨gb255, 0, none⟩ = some (.int .i64 a0_0) := (blk_cell BK255.out 0).trans rfl; have hcz50_1 : w48.cell? ⟨gb255, 1, none⟩ = some (.int .i64 a0_1) := (blk_cell BK255.out 1).trans rfl; have hfz50_0 := blk_frozen BK255.out 0; have hfz50_1 := blk_frozen BK255.out 1))
                go_roundg k3
                case measure => have := HJ7.out; have := HK2.out; have := HK3.out; omega
                case rel => exact ⟨(wrap64 (x16_3 + 1)), (by first | rfl | (simp; done) | (simp [*]; done)), H', ⟨by have := HJ7.out; have := HK2.out; have := HK3.out; omega⟩, ⟨by (with_reducible repeat (first | apply Kd.S_alloc | apply Kd.S_drewN | apply Kd.S_drew)); exact HO_14.out⟩, ⟨by (with_reducible repeat (first | apply Kd.R_alloc | apply Kd.R_drewN | apply Kd.R_drew)); exact HO_264000.out⟩, ⟨by (with_reducible repeat (first | refine blk_drewN ?_ _ | refine blk_drew ?_ | refine blk_alloc ?_ _)); exact BK255.out⟩, ⟨by (with_reducible repeat (first | refine blk_drewN ?_ _ | refine blk_drew ?_ | refine blk_alloc ?_ _)); exact BK263.out⟩, ⟨by repeat (first | (with_reducible first | exact HB.out | apply below_alloc | apply pw_below_drewN | apply below_drew1 | refine below_set ?_ GE255.out | refine below_set ?_ GE263.out) | exact HB.out)⟩⟩
              ·rw [if_neg c41] at H
               have c41b0 : (t273 == 0) = false := beq_eq_false_iff_ne.mpr c41
               have c41b1 : (t273 != 0) = true := bne_iff_ne.mpr c41
               obtain rfl := Option.some.inj H
               obtain ⟨Ao51, co51, eo51⟩ := Kd.S_slice HO_14.out
               subst eo51
               have p271 : 0 ≤ (x16_3 : Int) := of_decide_eq_true (by first | (with_reducible assumption) | assumption)
               have q271 : x16_3 < (t267.length : Int) := of_decide_eq_true (by first | (with_reducible assumption) | assumption)
               obtain ⟨ad271, A271_0, c271_0, e271, hx271_0, hx271_1, hx271_2, hl271_0, hi271_0⟩ := at_T32 (Kd.S_reads' HO_14.out).2.2 x16_3 p271 q271
               cases e271
               obtain ⟨ce271, hce271, hMe271, hcc271⟩ := Kd.S_get HO_14.out z32 x16_3 p271 (by first | exact q271 | exact of_decide_eq_true (by first | (with_reducible assumption) | assumption) | (have e_ := (Kd.S_reads' HO_14.out).1; omega))
               obtain ⟨ve271_0, rfl, ge271_0⟩ := k32_openM hMe271
               have hv271_0 := hcc271 0 _ rfl
               rw [Nat.add_zero] at hv271_0
               replace hv271_0 := Option.some.inj (hv271_0.symm.trans hx271_0)
               rw [hv271_0] at ge271_0
               have HL271_0 := Aside0.mk (show Kd.R k62 62 _ _ _ _ ((rd_T32 t267 x16_3).f0) from ge271_0)
               clear hv271_0 ge271_0
               clear hcc271 hce271
               have HR271_0 := Aside0.mk hi271_0
               have HC271_0 := Aside0.mk hl271_0
               clear hi271_0 hl271_0
               replace p271 := eq_true p271
               replace q271 := eq_true q271
               go_wp2_with (first | ((with_reducible refine gate_callee (f := 12) rfl ?_); refine goesL_ (some 82) rfl rfl Try.func12 (by kernel_rfl) rfl #[.agg #[.slice A271_0 ((rd_T32 t267 x16_3).f0).length c271_0, .int .i64 ((rd_T32 t267 x16_3).f1), .int .i64 ((rd_T32 t267 x16_3).f2)]] rfl (by (try simp only [List.map_toArray, List.map_cons, List.map_nil]); first | done | rfl | (simp only [List.length_drop, List.length_take]; rfl)) ?_; (with_reducible refine (leadlag_Spread.calls k3 _ _ ((rd_T32 t267 x16_3).f0) ((rd_T32 t267 x16_3).f1) ((rd_T32 t267 x16_3).f2) t272 t273 _ ?side1 ?side2 A40.out).mono ?_); (case side1 => repeat (first | exact (by repeat (first | (with_reducible exact HR271_0.out) | (with_reducible refine Kd.C_alloc ?_ _) | (with_reducible refine Kd.C_drewN ?_ _) | (with_reducible refine Kd.C_drew ?_) | exact HR271_0.out)) | (with_reducible refine Kd.C_alloc ?_ _) | (with_reducible refine Kd.C_drewN ?_ _) | (with_reducible refine Kd.C_drew ?_))); (case side2 => exact HC271_0.out); rintro e w52 ⟨rfl, hb⟩; refine ⟨_, rfl, ?_⟩; have n0_ := Aside0.mk (Kd.S_below (by (with_reducible repeat (first | apply Kd.S_alloc | apply Kd.S_drewN | apply Kd.S_drew)); exact HO_14.out) hb); have n1_ := Aside0.mk (Kd.R_below (by (with_reducible repeat (first | apply Kd.R_alloc | apply Kd.R_drewN | apply Kd.R_drew)); exact HO_264000.out) hb); have n2_ := Aside0.mk (Kd.R_below (by (with_reducible repeat (first | apply Kd.R_alloc | apply Kd.R_drewN | apply Kd.R_drew)); exact HL271_0.out) hb); have n3_ := Aside0.mk (blk_below (g := gb255) (o := .cells #[.int .i64 a0_0, .int .i64 a0_1] 23 (0, 0)) (by (with_reducible repeat (first | refine blk_drewN ?_ _ | refine blk_drew ?_ | refine blk_alloc ?_ _)); exact BK255.out) hb); have n4_ := Aside0.mk (blk_below (g := gb263) (o := .cells #[.slice Ao34 x264000_2.length co34, .int .i64 t260, .int .i64 t261] 32 (0, 0)) (by (with_reducible repeat (first | refine blk_drewN ?_ _ | refine blk_drew ?_ | refine blk_alloc ?_ _)); exact BK263.out) hb); have n5_ := Aside0.mk (Kd.C_below (by repeat (first | (with_reducible exact HR271_0.out) | (with_reducible refine Kd.C_alloc ?_ _) | (with_reducible refine Kd.C_drewN ?_ _) | (with_reducible refine Kd.C_drew ?_) | exact HR271_0.out)) hb); have n6_ := Aside0.mk (below_step (by repeat (first | (with_reducible first | exact HB.out | apply below_alloc | apply pw_below_drewN | apply below_drew1 | refine below_set ?_ GE255.out | refine below_set ?_ GE263.out) | exact HB.out)) hb); clear HO_14; clear HO_264000; clear HL271_0; clear BK255; clear BK263; clear HR271_0; clear HB; have HO_14 := n0_; have HO_264000 := n1_; have HL271_0 := n2_; have BK255 := n3_; have BK263 := n4_; have HR271_0 := n5_; have HB := n6_; clear n0_ n1_ n2_ n3_ n4_ n5_ n6_; (try clear hb); (try clear hb2); (try clear hk); (try clear hi)))
               go_ret
               exact ⟨by first | rfl | (simp [errW_none, errW_some] <;> rfl) | (simp [*, errW_none, errW_some] <;> rfl), by repeat (first | (with_reducible first | exact HB.out | apply below_alloc | apply pw_below_drewN | apply below_drew1 | refine below_set ?_ GE255.out | refine below_set ?_ GE263.out) | exact HB.out)⟩
             ·rw [if_neg c39] at H
              exact absurd H (by simp)
            ·rw [if_neg c38] at H
             have c38b0 : decide (x16_3 < (t267.length : Int)) = false := decide_eq_false c38
             clear c38
             obtain rfl := Option.some.inj H
             obtain ⟨Ao53, co53, eo53⟩ := Kd.S_slice HO_14.out
             subst eo53
             go_wp2
             go_ret
             exact ⟨by first | rfl | (simp [errW_none, errW_some] <;> rfl) | (simp [*, errW_none, errW_some] <;> rfl), by repeat (first | (with_reducible first | exact HB.out | apply below_alloc | apply pw_below_drewN | apply below_drew1 | refine below_set ?_ GE255.out | refine below_set ?_ GE263.out) | exact HB.out)⟩
         ·rw [if_neg c31] at H
          have c31b0 : (t270 == 0) = false := beq_eq_false_iff_ne.mpr c31
          have c31b1 : (t270 != 0) = true := bne_iff_ne.mpr c31
          obtain rfl := Option.some.inj H
          have hnb54 := NB263_255.out
          have hnc54 := NB255_263.out
          have hcz55_0 : wr.cell? ⟨gb263, 0, none⟩ = some (u264000) := (blk_cell BK263.out 0).trans rfl
          have hcz55_1 : wr.cell? ⟨gb263, 1, none⟩ = some (.int .i64 t260) := (blk_cell BK263.out 1).trans rfl
          have hcz55_2 : wr.cell? ⟨gb263, 2, none⟩ = some (.int .i64 t261) := (blk_cell BK263.out 2).trans rfl
          have hfz55_0 := blk_frozen BK263.out 0
          have hfz55_1 := blk_frozen BK263.out 1
          have hfz55_2 := blk_frozen BK263.out 2
          obtain ⟨Ao56, co56, eo56⟩ := Kd.R_slice HO_264000.out
          subst eo56
          try go_wp2
          have n0_ := Aside0.mk (Kd.R_drew HO_264000.out)
          have n1_ := Aside0.mk (blk_drew BK255.out)
          have n2_ := Aside0.mk (blk_drew BK263.out)
          have n3_ := Aside0.mk (below_drew1 HB.out)
          clear HO_264000
          clear BK255
          clear BK263
          clear HB
          have HO_264000 := n0_
          have BK255 := n1_
          have BK263 := n2_
          have HB := n3_
          clear n0_ n1_ n2_ n3_
          refine start_ (n := 11) (S := fun w' => w'.cell? ⟨gb255, 0, none⟩ = some (.int .i64 a0_0) ∧ w'.cell? ⟨gb255, 1, none⟩ = some (.int .i64 a0_1) ∧ w'.cell? ⟨gb263, 0, none⟩ = some (.slice Ao56 x264000_2.length co56) ∧ w'.cell? ⟨gb263, 1, none⟩ = some (.int .i64 t260) ∧ w'.cell? ⟨gb263, 2, none⟩ = some (.int .i64 t261)) (ds := []) #[false, false, false, false, false, false, false, false, false, false, false] (by kernel_rfl) rfl rfl ⟨(blk_cell BK255.out 0).trans rfl, (blk_cell BK255.out 1).trans rfl, (blk_cell BK263.out 0).trans rfl, (blk_cell BK263.out 1).trans rfl, (blk_cell BK263.out 2).trans rfl⟩ (fun hHeld => ?_); refine with_tabW plenumlaw55_LeadlagFair.tab12 plenumlaw55_LeadlagFair.bits12 (fun HT_ HW_ => ?_)
          generalize wr.drew = w57 at HO_264000 BK255 BK263 HB hHeld ⊢
          refine pure_ (i := 3) (N := some 61) (v := ?_) (a' := ?_) #[false, false, false, true, false, false, false, false, false, false, false] rfl rfl (any_of HT_.out (by kernel_rfl)) (fun _ _ _ h => h) (Or.inl ⟨by rfl, ?_⟩) ?_ ?_
          rotate_left
          ·intro w'
           go_simp
           with_reducible rfl
          rotate_left
          ·simp only [Act.put, List.setIfInBounds_toArray, List.set_cons_zero, List.set_cons_succ, i64_w, i32_w]
           rfl
          refine pure_ (i := 4) (N := some 62) (v := ?_) (a' := ?_) #[false, false, false, true, true, false, false, false, false, false, false] rfl rfl (any_of HT_.out (by kernel_rfl)) (fun _ _ _ h => h) (Or.inl ⟨by rfl, ?_⟩) ?_ ?_
          rotate_left
          ·intro w'
           go_simp
           with_reducible rfl
          rotate_left
          ·simp only [Act.put, List.setIfInBounds_toArray, List.set_cons_zero, List.set_cons_succ, i64_w, i32_w]
           rfl
          refine take_ (i := 0) (N := some 58) (v := ?_) (a' := ?_) #[true, false, false, true, true, false, false, false, false, false, false] rfl rfl (take_ofW HT_.out HW_.out (by kernel_rfl)) (fun _ _ _ h => h) (Or.inl ⟨by rfl, ?_⟩) hHeld ?_ ?_
          rotate_left
          ·rintro w' ⟨s0, s1, s2, s3, s4⟩
           go_simp
           with_reducible rfl
          rotate_left
          ·simp only [Act.put, List.setIfInBounds_toArray, List.set_cons_zero, List.set_cons_succ, i64_w, i32_w]
           rfl
          refine take_ (i := 2) (N := some 60) (v := ?_) (a' := ?_) #[true, false, true, true, true, false, false, false, false, false, false] rfl rfl (take_ofW HT_.out HW_.out (by kernel_rfl)) (fun _ _ _ h => h) (Or.inl ⟨by rfl, ?_⟩) hHeld ?_ ?_
          rotate_left
          ·rintro w' ⟨s0, s1, s2, s3, s4⟩
           go_simp
           with_reducible rfl
          rotate_left
          ·simp only [Act.put, List.setIfInBounds_toArray, List.set_cons_zero, List.set_cons_succ, i64_w, i32_w]
           rfl
          refine one_ (i := 1) (N := some 59) #[true, true, true, true, true, false, false, false, false, false, false] rfl rfl (one_of HT_.out (by kernel_rfl)) (by decide) (fun K hK => ?_)
          refine goes_ Try.func15 (by kernel_rfl) rfl #[.agg #[.int .i64 a0_0, .int .i64 a0_1]] (by rfl) rfl rfl (by (try simp only [List.map_toArray, List.map_cons, List.map_nil]); first | done | rfl | (simp only [List.length_drop, List.length_take]; rfl)) ?_
          with_reducible refine (plenumlaw55_rule.calls a0_0 a0_1 t265 t266 _ A29.out).mono ?_
          rintro e w58 ⟨rfl, hb⟩
          refine ⟨_, rfl, ?_⟩
          have n0_ := Aside0.mk (Kd.R_below (by (with_reducible repeat (first | apply Kd.R_alloc | apply Kd.R_drewN | apply Kd.R_drew)); exact HO_264000.out) hb)
          have n1_ := Aside0.mk (blk_below (g := gb255) (o := .cells #[.int .i64 a0_0, .int .i64 a0_1] 23 (0, 0)) (by (with_reducible repeat (first | refine blk_drewN ?_ _ | refine blk_drew ?_ | refine blk_alloc ?_ _)); exact BK255.out) hb)
          have n2_ := Aside0.mk (blk_below (g := gb263) (o := .cells #[.slice Ao56 x264000_2.length co56, .int .i64 t260, .int .i64 t261] 32 (0, 0)) (by (with_reducible repeat (first | refine blk_drewN ?_ _ | refine blk_drew ?_ | refine blk_alloc ?_ _)); exact BK263.out) hb)
          have n3_ := Aside0.mk (below_step (by repeat (first | (with_reducible first | exact HB.out | apply below_alloc | apply pw_below_drewN | apply below_drew1 | refine below_set ?_ GE255.out | refine below_set ?_ GE263.out) | exact HB.out)) hb)
          clear HO_264000
          clear BK255
          clear BK263
          clear HB
          have HO_264000 := n0_
          have BK255 := n1_
          have BK263 := n2_
          have HB := n3_
          clear n0_ n1_ n2_ n3_
          (try clear hb)
          (try clear hb2)
          (try clear hk)
          (try clear hi)
          refine hK.out _ _ ⟨(blk_cell BK255.out 0).trans rfl, (blk_cell BK255.out 1).trans rfl, (blk_cell BK263.out 0).trans rfl, (blk_cell BK263.out 1).trans rfl, (blk_cell BK263.out 2).trans rfl⟩ (fun hHeld => ?_)
          clear hK K
          refine norm_ (a' := ?_) ?_ ?_
          rotate_left
          ·show Act.put _ (some 59) _ = _
           simp only [Act.put, List.setIfInBounds_toArray, List.set_cons_zero, List.set_cons_succ, i64_w, i32_w]
           rfl
          refine one_ (i := 5) (N := some 63) #[true, true, true, true, true, true, false, false, false, false, false] rfl rfl (one_of HT_.out (by kernel_rfl)) (by decide) (fun K hK => ?_)
          refine goes_ Try.func26 (by kernel_rfl) rfl #[.agg #[.int .i64 t265, .int .i64 t266], .agg #[.slice Ao56 x264000_2.length co56, .int .i64 t260, .int .i64 t261], .slice A3 l3.length c3, .int .i64 a4] (by rfl) rfl rfl (by (try simp only [List.map_toArray, List.map_cons, List.map_nil]); first | done | rfl | (simp only [List.length_drop, List.length_take]; rfl)) ?_
          with_reducible refine (leadlag_Play.calls k2 t265 t266 _ _ x264000_2 t260 t261 _ _ l3 a4 t267 t270 _ ?side1 ?side2 ?side3 ?side4 A30.out).mono ?_
          (case side1 => repeat (first | exact (Kd.R_reads' HO_264000.out).2.2 | (with_reducible refine Kd.C_alloc ?_ _) | (with_reducible refine Kd.C_drewN ?_ _) | (with_reducible refine Kd.C_drew ?_)))
          (case side2 => exact (Kd.R_reads' HO_264000.out).2.1)
          (case side3 => repeat (first | exact (Kd.C_below HR3.out HB.out) | (with_reducible refine Kd.C_alloc ?_ _) | (with_reducible refine Kd.C_drewN ?_ _) | (with_reducible refine Kd.C_drew ?_)))
          (case side4 => exact HC3.out)
          rintro e w59 ⟨v268, rfl, ho0, hb⟩
          refine ⟨_, rfl, ?_⟩
          have n0_ := Aside0.mk (Kd.R_below (by (with_reducible repeat (first | apply Kd.R_alloc | apply Kd.R_drewN | apply Kd.R_drew)); exact HO_264000.out) hb)
          have n1_ := Aside0.mk (Kd.S_lower (Kd.S_newB (Kd.S_new' ho0 (Kd.R_lt (by (with_reducible repeat (first | apply Kd.R_alloc | apply Kd.R_drewN | apply Kd.R_drew)); exact HO_264000.out))) (g := gb263) (o := .cells #[.slice Ao56 x264000_2.length co56, .int .i64 t260, .int .i64 t261] 32 (0, 0)) (by (with_reducible repeat (first | refine blk_drewN ?_ _ | refine blk_drew ?_ | refine blk_alloc ?_ _)); exact BK263.out)) (below_size (by repeat (first | (with_reducible first | exact HB.out | apply below_alloc | apply pw_below_drewN | apply below_drew1 | refine below_set ?_ GE255.out | refine below_set ?_ GE263.out) | exact HB.out))))
          have n2_ := Aside0.mk (blk_below (g := gb255) (o := .cells #[.int .i64 a0_0, .int .i64 a0_1] 23 (0, 0)) (by (with_reducible repeat (first | refine blk_drewN ?_ _ | refine blk_drew ?_ | refine blk_alloc ?_ _)); exact BK255.out) hb)
          have n3_ := Aside0.mk (blk_below (g := gb263) (o := .cells #[.slice Ao56 x264000_2.length co56, .int .i64 t260, .int .i64 t261] 32 (0, 0)) (by (with_reducible repeat (first | refine blk_drewN ?_ _ | refine blk_drew ?_ | refine blk_alloc ?_ _)); exact BK263.out) hb)
          have n4_ := Aside0.mk (below_step (by repeat (first | (with_reducible first | exact HB.out | apply below_alloc | apply pw_below_drewN | apply below_drew1 | refine below_set ?_ GE255.out | refine below_set ?_ GE263.out) | exact HB.out)) hb)
          clear HO_264000
          clear BK255
          clear BK263
          clear HB
          have HO_264000 := n0_
          have HO269 := n1_
          have BK255 := n2_
          have BK263 := n3_
          have HB := n4_
          clear n0_ n1_ n2_ n3_ n4_
          (try clear hb)
          (try clear hb2)
          (try clear hk)
          (try clear hi)
          (try clear ho0)
          refine hK.out _ _ ⟨(blk_cell BK255.out 0).trans rfl, (blk_cell BK255.out 1).trans rfl, (blk_cell BK263.out 0).trans rfl, (blk_cell BK263.out 1).trans rfl, (blk_cell BK263.out 2).trans rfl⟩ (fun hHeld => ?_)
          clear hK K
          refine norm_ (a' := ?_) ?_ ?_
          rotate_left
          ·show Act.put _ (some 63) _ = _
           simp only [Act.put, List.setIfInBounds_toArray, List.set_cons_zero, List.set_cons_succ, i64_w, i32_w]
           rfl
          refine pure_ (i := 6) (N := some 57) (v := ?_) (a' := ?_) #[true, true, true, true, true, true, true, false, false, false, false] rfl rfl (any_of HT_.out (by kernel_rfl)) (fun _ _ _ h => h) (Or.inl ⟨by rfl, ?_⟩) ?_ ?_
          rotate_left
          ·intro w'
           go_simp
           with_reducible rfl
          rotate_left
          ·simp only [Act.put, List.setIfInBounds_toArray, List.set_cons_zero, List.set_cons_succ, i64_w, i32_w]
           rfl
          refine pure_ (i := 7) (N := some 64) (v := ?_) (a' := ?_) #[true, true, true, true, true, true, true, true, false, false, false] rfl rfl (any_of HT_.out (by kernel_rfl)) (fun _ _ _ h => h) (Or.inl ⟨by rfl, ?_⟩) ?_ ?_
          rotate_left
          ·intro w'
           go_simp
           with_reducible rfl
          rotate_left
          ·simp only [Act.put, List.setIfInBounds_toArray, List.set_cons_zero, List.set_cons_succ, i64_w, i32_w]
           rfl
          refine pure_ (i := 8) (N := some 65) (v := ?_) (a' := ?_) #[true, true, true, true, true, true, true, true, true, false, false] rfl rfl (any_of HT_.out (by kernel_rfl)) (fun _ _ _ h => h) (Or.inl ⟨by rfl, ?_⟩) ?_ ?_
          rotate_left
          ·intro w'
           go_simp
           with_reducible rfl
          rotate_left
          ·simp only [Act.put, List.setIfInBounds_toArray, List.set_cons_zero, List.set_cons_succ, i64_w, i32_w]
           rfl
          refine pure_ (i := 9) (N := some 14) (v := ?_) (a' := ?_) #[true, true, true, true, true, true, true, true, true, true, false] rfl rfl (any_of HT_.out (by kernel_rfl)) (fun _ _ _ h => h) (Or.inl ⟨by rfl, ?_⟩) ?_ ?_
          rotate_left
          ·intro w'
           go_simp
           with_reducible rfl
          rotate_left
          ·simp only [Act.put, List.setIfInBounds_toArray, List.set_cons_zero, List.set_cons_succ, i64_w, i32_w]
           rfl
          refine pure_ (i := 10) (N := some 15) (v := ?_) (a' := ?_) #[true, true, true, true, true, true, true, true, true, true, true] rfl rfl (any_of HT_.out (by kernel_rfl)) (fun _ _ _ h => h) (Or.inl ⟨by rfl, ?_⟩) ?_ ?_
          rotate_left
          ·intro w'
           go_simp
           with_reducible rfl
          rotate_left
          ·simp only [Act.put, List.setIfInBounds_toArray, List.set_cons_zero, List.set_cons_succ, i64_w, i32_w]
           rfl
          refine done_ (done_of HT_.out (by kernel_rfl)) ?_
          obtain ⟨Ao60, co60, eo60⟩ := Kd.S_slice HO269.out
          subst eo60
          try go_wp2
          go_ret
          exact ⟨by first | rfl | (simp [errW_none, errW_some] <;> rfl) | (simp [*, errW_none, errW_some] <;> rfl), by repeat (first | (with_reducible first | exact HB.out | apply below_alloc | apply pw_below_drewN | apply below_drew1 | refine below_set ?_ GE255.out | refine below_set ?_ GE263.out) | exact HB.out)⟩
     ·rw [if_neg c15] at H
      have c15b0 : (t262 == 0) = false := beq_eq_false_iff_ne.mpr c15
      have c15b1 : (t262 != 0) = true := bne_iff_ne.mpr c15
      obtain rfl := Option.some.inj H
      go_wp2_with (first | ((with_reducible refine gate_callee (f := 10) rfl ?_); refine goesL_ (some 35) rfl rfl Try.func10 (by kernel_rfl) rfl #[.int .i64 a1, .int .i64 a4] rfl (by (try simp only [List.map_toArray, List.map_cons, List.map_nil]); first | done | rfl | (simp only [List.length_drop, List.length_take]; rfl)) ?_; (with_reducible refine (leadlag_New.calls kj7 a1 a4 t257 t260 t261 t262 _ A14.out).mono ?_); rintro e w61 ⟨v258, rfl, ho0, hb⟩; refine ⟨_, rfl, ?_⟩; have n0_ := Aside0.mk (Kd.R_lower ho0 (below_size (by repeat (first | (with_reducible first | exact HB.out | apply below_alloc | apply pw_below_drewN | apply below_drew1 | refine below_set ?_ GE255.out) | exact HB.out)))); have n1_ := Aside0.mk (blk_below (g := gb255) (o := .cells #[.int .i64 a0_0, .int .i64 a0_1] 23 (0, 0)) (by (with_reducible repeat (first | refine blk_drewN ?_ _ | refine blk_drew ?_ | refine blk_alloc ?_ _)); exact BK255.out) hb); have n2_ := Aside0.mk (below_step (by repeat (first | (with_reducible first | exact HB.out | apply below_alloc | apply pw_below_drewN | apply below_drew1 | refine below_set ?_ GE255.out) | exact HB.out)) hb); clear BK255; clear HB; have HO259 := n0_; have BK255 := n1_; have HB := n2_; clear n0_ n1_ n2_; (try clear hb); (try clear hb2); (try clear hk); (try clear hi); (try clear ho0)) | ((with_reducible refine gate_dst (N := 11) rfl ?_); refine box_event ?hg (N := 11) ?hd (cs := #[.slice none 0 0, .int .i64 0, .int .i64 0]) (t := 32) ?hr ?_; (case hd => rfl); (case hg => rfl); (case hr => first | (go_simp; done) | (go_simp; rfl)); intro gb263 hg w62 hbox hb; have n0_ := Aside0.mk (Kd.R_below (by (with_reducible repeat (first | apply Kd.R_alloc | apply Kd.R_drewN | apply Kd.R_drew)); exact HO259.out) hb); have n1_ := Aside0.mk (blk_below (g := gb255) (o := .cells #[.int .i64 a0_0, .int .i64 a0_1] 23 (0, 0)) (by (with_reducible repeat (first | refine blk_drewN ?_ _ | refine blk_drew ?_ | refine blk_alloc ?_ _)); exact BK255.out) hb); have n2_ := Aside0.mk (below_step (by repeat (first | (with_reducible first | exact HB.out | apply below_alloc | apply pw_below_drewN | apply below_drew1 | refine below_set ?_ GE255.out) | exact HB.out)) hb); have n3_ := Aside0.mk (hbox); have n4_ := Aside0.mk ((by rw [hg]; exact (below_size (by repeat (first | (with_reducible first | exact HB.out | apply below_alloc | apply pw_below_drewN | apply below_drew1 | refine below_set ?_ GE255.out) | exact HB.out))) : w.heap.size ≤ gb263)); have n5_ := Aside0.mk ((by rw [hg]; exact (below_size (by repeat (first | (with_reducible first | exact HB.out | apply below_alloc | apply pw_below_drewN | apply below_drew1 | refine below_set ?_ GE255.out) | exact HB.out))) : w.heap.size ≤ gb263)); have n6_ := Aside0.mk ((by rw [hg]; exact Nat.ne_of_lt (blk_lt (g := gb255) (o := .cells #[.int .i64 a0_0, .int .i64 a0_1] 23 (0, 0)) (by (with_reducible repeat (first | refine blk_drewN ?_ _ | refine blk_drew ?_ | refine blk_alloc ?_ _)); exact BK255.out)) : gb255 ≠ gb263)); have n7_ := Aside0.mk ((by rw [hg]; exact Nat.ne_of_gt (blk_lt (g := gb255) (o := .cells #[.int .i64 a0_0, .int .i64 a0_1] 23 (0, 0)) (by (with_reducible repeat (first | refine blk_drewN ?_ _ | refine blk_drew ?_ | refine blk_alloc ?_ _)); exact BK255.out)) : gb263 ≠ gb255)); clear HO259; clear BK255; clear HB; have HO259 := n0_; have BK255 := n1_; have HB := n2_; have BK263 := n3_; have GW263 := n4_; have GE263 := n5_; have NB255_263 := n6_; have NB263_255 := n7_; clear n0_ n1_ n2_ n3_ n4_ n5_ n6_ n7_; clear hb hbox hg; obtain ⟨Ao63, co63, eo63⟩ := Kd.R_slice HO259.out; subst eo63; have hnb64 := NB263_255.out; have hnc64 := NB255_263.out; have hcz65_0 : w62.cell? ⟨gb263, 0, none⟩ = some (.slice none 0 0) := (blk_cell BK263.out 0).trans rfl; have hcz65_1 : w62.cell? ⟨gb263, 1, none⟩ = some (.int .i64 0) := (blk_cell BK263.out 1).trans rfl; have hcz65_2 : w62.cell? ⟨gb263, 2, none⟩ = some (.int .i64 0) := (blk_cell BK263.out 2).trans rfl; have hfz65_0 := blk_frozen BK263.out 0; have hfz65_1 := blk_frozen BK263.out 1; have hfz65_2 := blk_frozen BK263.out 2))
      go_ret
      exact ⟨by first | rfl | (simp [errW_none, errW_some] <;> rfl) | (simp [*, errW_none, errW_some] <;> rfl), by repeat (first | (with_reducible first | exact HB.out | apply below_alloc | apply pw_below_drewN | apply below_drew1 | refine below_set ?_ GE255.out | refine below_set ?_ GE263.out) | exact HB.out)⟩
 ·replace c7 := Bool.eq_false_iff.mpr c7
  subst c7
  have H1 : (some false) = some r := by rw [if_neg (show ¬ (false = true) by decide)] at H; exact H
  clear H
  have H := H1
  clear H1
  obtain rfl := Option.some.inj H
  go_enter Try.func5, Try.ntmps5
  go_wp2_with (first | ((with_reducible refine gate_dst (N := 5) rfl ?_); refine box_event ?hg (N := 5) ?hd (cs := #[.int .i64 a0_0, .int .i64 a0_1]) (t := 23) ?hr ?_; (case hd => rfl); (case hg => rfl); (case hr => first | (go_simp; done) | (go_simp; rfl)); intro gb255 hg w66 hbox hb; have n0_ := Aside0.mk (below_step (by repeat (first | (with_reducible first | exact HB.out | apply below_alloc | apply pw_below_drewN | apply below_drew1) | exact HB.out)) hb); have n1_ := Aside0.mk (hbox); have n2_ := Aside0.mk ((by rw [hg]; exact (below_size (by repeat (first | (with_reducible first | exact HB.out | apply below_alloc | apply pw_below_drewN | apply below_drew1) | exact HB.out))) : w.heap.size ≤ gb255)); have n3_ := Aside0.mk ((by rw [hg]; exact (below_size (by repeat (first | (with_reducible first | exact HB.out | apply below_alloc | apply pw_below_drewN | apply below_drew1) | exact HB.out))) : w.heap.size ≤ gb255)); clear HB; have HB := n0_; have BK255 := n1_; have GW255 := n2_; have GE255 := n3_; clear n0_ n1_ n2_ n3_; clear hb hbox hg) | ((with_reducible refine gate_callee (f := 8) rfl ?_); refine goesL_ (some 19) rfl rfl Try.func8 (by kernel_rfl) rfl #[] rfl (by (try simp only [List.map_toArray, List.map_cons, List.map_nil]); first | done | rfl | (simp only [List.length_drop, List.length_take]; rfl)) ?_; (with_reducible refine (plenumlaw55_awake.calls k  false _ A6.out).mono ?_); rintro e w67 ⟨rfl, hb⟩; refine ⟨_, rfl, ?_⟩; have n0_ := Aside0.mk (blk_below (g := gb255) (o := .cells #[.int .i64 a0_0, .int .i64 a0_1] 23 (0, 0)) (by (with_reducible repeat (first | refine blk_drewN ?_ _ | refine blk_drew ?_ | refine blk_alloc ?_ _)); exact BK255.out) hb); have n1_ := Aside0.mk (below_step (by repeat (first | (with_reducible first | exact HB.out | apply below_alloc | apply pw_below_drewN | apply below_drew1 | refine below_set ?_ GE255.out) | exact HB.out)) hb); clear BK255; clear HB; have BK255 := n0_; have HB := n1_; clear n0_ n1_; (try clear hb); (try clear hb2); (try clear hk); (try clear hi)))
  go_ret
  exact ⟨by first | rfl | (simp [errW_none, errW_some] <;> rfl) | (simp [*, errW_none, errW_some] <;> rfl), by repeat (first | (with_reducible first | exact HB.out | apply below_alloc | apply pw_below_drewN | apply below_drew1 | refine below_set ?_ GE255.out) | exact HB.out)⟩

end Go.Proofs.Ytbecejhjdagkdaa.L
