-- Written by pp.py (a program of this session, over the kit's print.py) out of the translation. Not trusted: Lean checks it.
import Derived.Test.YteclemahimldeaaKx0
import Derived.Test.YteclemahimldeaaKx2
import Derived.Test.YteclemahimldeaaKx3
import Derived.Test.YteclemahimldeaaKx4
import Derived.Test.YteclemahimldeaaKx6
namespace Go.Proofs.Yteclemahimldeaa.K
open Go.RowKit Go.Proofs.YteclemahimldeaaW.PrintWords Go.Proofs.YteclemahimldeaaW.PrintLast Go.Proofs.YteclemahimldeaaW.PrintMore
attribute [local go_sem] max2_int min2_int max_two min_two max_three min_three max_four min_four   -- for this text's walks alone
attribute [local go_sem] pp_mod256 pp_mod256_w
set_option linter.unusedVariables false
set_option linter.unusedSimpArgs false

attribute [local go_sem high] eqA42
/-! ### plenumlaw42_plain: function 23 -/
def plenumlaw42_plain.l0 : Nat → Int → List (S42) → Int → Option ((List (S42)))
 | 0, _, _, _ => none
 | k + 1, x1, x5, x6 => if x6 ≤ x1 then (if x5.length < 2932031007402 then (plenumlaw42_plain.l0 k x1 (x5 ++ [(⟨x6, wrap64 (10 * x6), (⟨1, x6⟩ : S40), 0, 0⟩ : S42)]) (wrap64 (x6 + 1))) else (none)) else (some x5)
def plenumlaw42_plain.f (k : Nat) (a0 : Int) (a1 : Int) : Option ((List (S42))) := plenumlaw42_plain.l0 k a1 (([] : List (S42))) a0
theorem plenumlaw42_plain.mono_l : ∀ k, (∀ y0 y1 y2, LeO (plenumlaw42_plain.l0 k y0 y1 y2) (plenumlaw42_plain.l0 (k + 1) y0 y1 y2))
 | 0 => fun _ _ _ r h => by simp [plenumlaw42_plain.l0] at h
 | k + 1 => by
  have ih0 := plenumlaw42_plain.mono_l k
  ·intro y0 y1 y2
   unfold plenumlaw42_plain.l0
   repeat' first
   | (with_reducible exact ih0 _ _ _)
   | (with_reducible exact LeO.refl _)
   | (with_reducible exact LeO.none _)
   | (with_reducible refine LeO.ite ?_ ?_)
   | (with_reducible refine LeO.bind ?_ (fun _ => ?_))
   | exact ih0 _ _ _
   | exact LeO.none _
   | refine LeO.ite ?_ ?_
   | refine LeO.bind ?_ (fun _ => ?_)
theorem plenumlaw42_plain.mono : ∀ a0 a1 k, LeO (plenumlaw42_plain.f k a0 a1) (plenumlaw42_plain.f (k + 1) a0 a1) := by
 intro a0 a1 k
 have ih0 := plenumlaw42_plain.mono_l k
 unfold plenumlaw42_plain.f
 repeat' first
   | (with_reducible exact ih0 _ _ _)
   | (with_reducible exact LeO.refl _)
   | (with_reducible exact LeO.none _)
   | (with_reducible refine LeO.ite ?_ ?_)
   | (with_reducible refine LeO.bind ?_ (fun _ => ?_))
   | exact ih0 _ _ _
   | exact LeO.none _
   | refine LeO.ite ?_ ?_
   | refine LeO.bind ?_ (fun _ => ?_)
set_option maxHeartbeats 8000000 in
set_option maxRecDepth 100000 in
theorem plenumlaw42_plain.calls (k : Nat) (a0 : Int) (a1 : Int) (r : List (S42)) (w : World) (h : plenumlaw42_plain.f k a0 a1 = some r) :
  Calls Try.prog 23 #[.int .i64 a0, .int .i64 a1] w fun e w' => ∃ v0_ : Value, e = .returned (v0_) ∧ Kd.R k42 42 w' w.heap.size (fun _ => True) v0_ r ∧ Below w.heap.size w w' := by
 have hu40 := Try.underlying40
 have hu42 := Try.underlying42
 have HB := Aside0.mk (Below.refl w.heap.size w)
 have H : (plenumlaw42_plain.l0 k a1 (([] : List (S42))) a0) = some r := h
 clear h
 obtain ⟨y132, hy132⟩ : ∃ y_ : List (S42), y_ = (([] : List (S42))) := ⟨_, rfl⟩
 replace H : (plenumlaw42_plain.l0 k a1 y132 a0) = some r := by first | (rw [hy132]; with_reducible exact H) | (have H2_ := (Option.bind_some _ _).symm.trans H; rw [hy132]; with_reducible exact H2_) | (have H2_ := (Option.bind_some _ _).symm.trans H; with_reducible exact H2_) | with_reducible exact H | (rw [hy132]; exact H) | exact H
 have Ny132 := Aside0.mk hy132
 clear hy132
 have H' := Aside0.mk H
 clear H
 go_enter Try.func23, Try.ntmps23
 go_wp2_with (first | ((with_reducible refine gate_dst (N := 7) rfl ?_); refine Kd.R_lit k42 _ 42 ?hg (N := 7) ?hd (xs := ([] : List (S42))) (inner := []) (ok := fun _ => True) (okp := fun _ => True) ?hr ?hp (fun _ hk => hk) trivial (Below.refl _ _) (Nat.le_refl _) (by simp) ?_; (case hd => rfl); (case hg => rfl); (case hr => first | (go_simp; done) | (go_simp; rfl)); (case hp => exact (Reps.none _ _)); intro v133 w3 ho4 hb hg_ hnew_; clear hg_ hnew_; (first | rw [← Ny132.out] at ho4 | (simp only [Int.reduceToNat] at ho4; rw [← Ny132.out] at ho4)); have n0_ := Aside0.mk (Kd.R_lower ho4 (below_size (by repeat (first | (with_reducible first | exact HB.out | apply below_alloc | apply pw_below_drewN | apply below_drew1) | exact HB.out)))); have n1_ := Aside0.mk (below_step (by repeat (first | (with_reducible first | exact HB.out | apply below_alloc | apply pw_below_drewN | apply below_drew1) | exact HB.out)) hb); clear HB; have HO134 := n0_; have HB := n1_; clear n0_ n1_; clear hb ho4))
 go_loopg [5, 6] k (fun kq v5 v6 w' => ∃ (x5_1 : List (S42)) (x6_1 : Int), v6 = .int .i64 x6_1 ∧ Aside0 (plenumlaw42_plain.l0 kq a1 x5_1 x6_1 = some r) ∧ Aside0 (kq ≤ k) ∧ Aside0 (Kd.R k42 42 w' w.heap.size (fun _ => True) v5 x5_1) ∧ Aside0 (Below w.heap.size w w'))
 case atStart => exact ⟨(y132), (a0), (by first | rfl | (simp; done) | (simp [*]; done)), H', ⟨Nat.le_refl _⟩, ⟨by (with_reducible repeat (first | apply Kd.R_alloc | apply Kd.R_drewN | apply Kd.R_drew)); exact HO134.out⟩, ⟨by repeat (first | (with_reducible first | exact HB.out | apply below_alloc | apply pw_below_drewN | apply below_drew1) | exact HB.out)⟩⟩
 case round =>
  clear H'
  try clear c2
  try clear p2
  obtain ⟨x5_1, x6_1, rfl, HA, HK1, HO_5, HB⟩ := hrel
  cases gk with
  | zero => exact absurd HA.out (by simp [plenumlaw42_plain.l0])
  | succ k1 =>
   have H := HA.out
   clear HA
   simp only [plenumlaw42_plain.l0] at H
   by_cases c5 : x6_1 ≤ a1
   ·rw [if_pos c5] at H
    have c5b0 : decide (x6_1 ≤ a1) = true := decide_eq_true c5
    clear c5
    by_cases c6 : x5_1.length < 2932031007402
    ·rw [if_pos c6] at H
     have LMc6 := Aside0.mk c6
     clear c6
     obtain ⟨y135, hy135⟩ : ∃ y_ : List (S42), y_ = (x5_1 ++ [(⟨x6_1, wrap64 (10 * x6_1), (⟨1, x6_1⟩ : S40), 0, 0⟩ : S42)]) := ⟨_, rfl⟩
     replace H : (plenumlaw42_plain.l0 k1 a1 y135 (wrap64 (x6_1 + 1))) = some r := by first | (rw [hy135]; with_reducible exact H) | (have H2_ := (Option.bind_some _ _).symm.trans H; rw [hy135]; with_reducible exact H2_) | (have H2_ := (Option.bind_some _ _).symm.trans H; with_reducible exact H2_) | with_reducible exact H | (rw [hy135]; exact H) | exact H
     have Ny135 := Aside0.mk hy135
     clear hy135
     have H' := Aside0.mk H
     clear H
     go_wp2_with (first | ((with_reducible refine gate_builtin (b := .append) (xs := #[.tmp 14, .tmp 21]) rfl ?_); at_builtin; refine Kd.R_append k42 (w0 := w) w.heap.size rfl (.tmp 14) (.tmp 21) 27 42 (.agg #[(.int .i64 0), (.int .i64 0), (.int .i64 0), (.int .i64 0), (.int .i64 0), (.int .i64 0)]) 48 rfl Try.underlying27 info42 rfl (by decide) (by omega) u5 x5_1 (⟨x6_1, wrap64 (10 * x6_1), (⟨1, x6_1⟩ : S40), 0, 0⟩ : S42) [.int .i64 x6_1, .int .i64 (wrap64 (10 * x6_1)), .int .i64 1, .int .i64 x6_1, .int .i64 0, .int .i64 0] (fun _ => True) (fun _ => False) rfl rfl ?aP (fun _ hk => hk.elim) ?aF ?aO ?aB ?aS ?aL ?_; (case aP => exact k42_mkM _ _ _ (⟨x6_1, wrap64 (10 * x6_1), (⟨1, x6_1⟩ : S40), 0, 0⟩ : S42)); (case aB => exact (by repeat (first | (with_reducible first | exact HB.out | apply below_alloc | apply pw_below_drewN | apply below_drew1) | exact HB.out))); (case aF => exact (fun _ _ => trivial)); (case aO => exact (by (with_reducible repeat (first | apply Kd.R_alloc | apply Kd.R_drewN | apply Kd.R_drew)); exact HO_5.out)); (case aS => exact (below_size (by repeat (first | (with_reducible first | exact HB.out | apply below_alloc | apply pw_below_drewN | apply below_drew1) | exact HB.out)))); (case aL => have := LMc6.out; omega); intro v136 w7 ho hb hg hat; rw [← Ny135.out] at ho; have n0_ := Aside0.mk (hb); have n1_ := Aside0.mk (ho); clear HB; clear HO_5; have HB := n0_; have HO137 := n1_; clear n0_ n1_; clear ho hb hg hat))
     go_roundg k1
     case measure => have := HK1.out; omega
     case rel => exact ⟨(y135), (wrap64 (x6_1 + 1)), (by first | rfl | (simp; done) | (simp [*]; done)), H', ⟨by have := HK1.out; omega⟩, ⟨by (with_reducible repeat (first | apply Kd.R_alloc | apply Kd.R_drewN | apply Kd.R_drew)); exact HO137.out⟩, ⟨by repeat (first | (with_reducible first | exact HB.out | apply below_alloc | apply pw_below_drewN | apply below_drew1) | exact HB.out)⟩⟩
    ·rw [if_neg c6] at H
     exact absurd H (by simp)
   ·rw [if_neg c5] at H
    have c5b0 : decide (x6_1 ≤ a1) = false := decide_eq_false c5
    clear c5
    obtain rfl := Option.some.inj H
    go_wp2
    go_ret
    exact ⟨_, by first | rfl | (simp [errW_none, errW_some] <;> rfl) | (simp [*, errW_none, errW_some] <;> rfl), by (with_reducible repeat (first | apply Kd.R_alloc | apply Kd.R_drewN | apply Kd.R_drew)); exact HO_5.out, by repeat (first | (with_reducible first | exact HB.out | apply below_alloc | apply pw_below_drewN | apply below_drew1) | exact HB.out)⟩

/-! ### collect_At: function 27 -/
def collect_At.l0 : Nat → List (S42) → Int → Int → List (S42) → Int → Int → Option (Int × Int × Int)
 | 0, _, _, _, _, _, _ => none
 | k + 1, x0, x1, x7, x16, x17, x18 => if x18 < x17 then (if 0 ≤ x18 then (if x18 < (x16.length : Int) then (if ((rd_T42 x16 x18).f4) = 0 then (if ((rd_T42 x16 x18).f1) ≤ x1 then (collect_At.l0 k x0 x1 x18 x16 x17 (wrap64 (x18 + 1))) else (collect_At.l0 k x0 x1 x7 x16 x17 (wrap64 (x18 + 1)))) else (collect_At.l0 k x0 x1 x7 x16 x17 (wrap64 (x18 + 1)))) else (none)) else (none)) else (if x7 < 0 then (some (0, 0, 9)) else (if (wrap64 (x7 + 1)) < (x0.length : Int) then (if 0 ≤ (wrap64 (x7 + 1)) then (if ((rd_T42 x0 (wrap64 (x7 + 1))).f4) > 0 then (some (0, 0, 8)) else (if 0 ≤ x7 then (if x7 < (x0.length : Int) then (some ((rd_T42 x0 x7).f2.f0, (rd_T42 x0 x7).f2.f1, 0)) else (none)) else (none))) else (none)) else (if 0 ≤ x7 then (if x7 < (x0.length : Int) then (some ((rd_T42 x0 x7).f2.f0, (rd_T42 x0 x7).f2.f1, 0)) else (none)) else (none))))
def collect_At.f (k : Nat) (l0 : List (S42)) (a1 : Int) : Option (Int × Int × Int) := (collect_Check.f k l0).bind fun t139 => (if t139 = 0 then (collect_At.l0 k l0 a1 (-1) l0 (l0.length : Int) 0) else (some (0, 0, t139)))
theorem collect_At.mono_l : ∀ k, (∀ y0 y1 y2 y3 y4 y5, LeO (collect_At.l0 k y0 y1 y2 y3 y4 y5) (collect_At.l0 (k + 1) y0 y1 y2 y3 y4 y5))
 | 0 => fun _ _ _ _ _ _ r h => by simp [collect_At.l0] at h
 | k + 1 => by
  have ih0 := collect_At.mono_l k
  ·intro y0 y1 y2 y3 y4 y5
   unfold collect_At.l0
   repeat' first
   | (with_reducible exact ih0 _ _ _ _ _ _)
   | (with_reducible exact collect_Check.mono _ _)
   | (with_reducible exact LeO.refl _)
   | (with_reducible exact LeO.none _)
   | (with_reducible refine LeO.ite ?_ ?_)
   | (with_reducible refine LeO.bind ?_ (fun _ => ?_))
   | exact ih0 _ _ _ _ _ _
   | exact collect_Check.mono _ _
   | exact LeO.none _
   | refine LeO.ite ?_ ?_
   | refine LeO.bind ?_ (fun _ => ?_)
theorem collect_At.mono : ∀ a0 a1 k, LeO (collect_At.f k a0 a1) (collect_At.f (k + 1) a0 a1) := by
 intro a0 a1 k
 have ih0 := collect_At.mono_l k
 unfold collect_At.f
 repeat' first
   | (with_reducible exact ih0 _ _ _ _ _ _)
   | (with_reducible exact collect_Check.mono _ _)
   | (with_reducible exact LeO.refl _)
   | (with_reducible exact LeO.none _)
   | (with_reducible refine LeO.ite ?_ ?_)
   | (with_reducible refine LeO.bind ?_ (fun _ => ?_))
   | exact ih0 _ _ _ _ _ _
   | exact collect_Check.mono _ _
   | exact LeO.none _
   | refine LeO.ite ?_ ?_
   | refine LeO.bind ?_ (fun _ => ?_)
set_option maxHeartbeats 8000000 in
set_option maxRecDepth 100000 in
theorem collect_At.calls (k : Nat) (A0 : Option Addr) (c0 : Nat) (l0 : List (S42)) (a1 : Int) (r1 : Int) (r2 : Int) (r3 : Int) (w : World) (hr0 : Kd.C k42 w A0 l0.length l0) (hc0 : l0.length ≤ c0) (h : collect_At.f k l0 a1 = some (r1, r2, r3)) :
  Calls Try.prog 27 #[.slice A0 l0.length c0, .int .i64 a1] w fun e w' => e = .returned (.tuple #[.agg #[.int .i64 r1, .int .i64 r2], .int .i64 r3]) ∧ Below w.heap.size w w' := by
 have hu40 := Try.underlying40
 have hu42 := Try.underlying42
 have HR0 := Aside0.mk hr0
 have HC0 := Aside0.mk hc0
 clear hr0 hc0
 have HB := Aside0.mk (Below.refl w.heap.size w)
 have H : ((collect_Check.f k l0).bind fun t139 => (if t139 = 0 then (collect_At.l0 k l0 a1 (-1) l0 (l0.length : Int) 0) else (some (0, 0, t139)))) = some (r1, r2, r3) := h
 clear h
 replace H := Option.bind_eq_some_iff.mp H
 obtain ⟨t139, A30, H⟩ := H
 replace H : (if t139 = 0 then (collect_At.l0 k l0 a1 (-1) l0 (l0.length : Int) 0) else (some (0, 0, t139))) = some (r1, r2, r3) := H
 have A3 := Aside0.mk A30
 clear A30
 by_cases c4 : t139 = 0
 ·rw [if_pos c4] at H
  have c4b0 : (t139 == 0) = true := beq_iff_eq.mpr c4
  have c4b1 : (t139 != 0) = false := bne_eq_false_iff_eq.mpr c4
  clear c4
  have H' := Aside0.mk H
  clear H
  go_enter Try.func27, Try.ntmps27
  go_wp2_with (first | ((with_reducible refine gate_dst (N := 4) rfl ?_); refine box_event ?hg (N := 4) ?hd (cs := #[.int .i64 0, .int .i64 0]) (t := 40) ?hr ?_; (case hd => rfl); (case hg => rfl); (case hr => first | (go_simp; done) | (go_simp; rfl)); intro gb138 hg w5 hbox hb; have n0_ := Aside0.mk (below_step (by repeat (first | (with_reducible first | exact HB.out | apply below_alloc | apply pw_below_drewN | apply below_drew1) | exact HB.out)) hb); have n1_ := Aside0.mk (hbox); have n2_ := Aside0.mk ((by rw [hg]; exact (below_size (by repeat (first | (with_reducible first | exact HB.out | apply below_alloc | apply pw_below_drewN | apply below_drew1) | exact HB.out))) : w.heap.size ≤ gb138)); have n3_ := Aside0.mk ((by rw [hg]; exact (below_size (by repeat (first | (with_reducible first | exact HB.out | apply below_alloc | apply pw_below_drewN | apply below_drew1) | exact HB.out))) : w.heap.size ≤ gb138)); clear HB; have HB := n0_; have BK138 := n1_; have GW138 := n2_; have GE138 := n3_; clear n0_ n1_ n2_ n3_; clear hb hbox hg) | ((with_reducible refine gate_callee (f := 21) rfl ?_); refine goesL_ (some 11) rfl rfl Try.func21 (by kernel_rfl) rfl #[.slice A0 l0.length c0] rfl (by (try simp only [List.map_toArray, List.map_cons, List.map_nil]); first | done | rfl | (simp only [List.length_drop, List.length_take]; rfl)) ?_; (with_reducible refine (collect_Check.calls k _ _ l0 t139 _ ?side1 ?side2 A3.out).mono ?_); (case side1 => repeat (first | exact (Kd.C_below HR0.out HB.out) | (with_reducible refine Kd.C_alloc ?_ _) | (with_reducible refine Kd.C_drewN ?_ _) | (with_reducible refine Kd.C_drew ?_))); (case side2 => exact HC0.out); rintro e w6 ⟨rfl, hb⟩; refine ⟨_, rfl, ?_⟩; have n0_ := Aside0.mk (blk_below (g := gb138) (o := .cells #[.int .i64 0, .int .i64 0] 40 (0, 0)) (by (with_reducible repeat (first | refine blk_drewN ?_ _ | refine blk_drew ?_ | refine blk_alloc ?_ _)); exact BK138.out) hb); have n1_ := Aside0.mk (below_step (by repeat (first | (with_reducible first | exact HB.out | apply below_alloc | apply pw_below_drewN | apply below_drew1 | refine below_set ?_ GE138.out) | exact HB.out)) hb); clear BK138; clear HB; have BK138 := n0_; have HB := n1_; clear n0_ n1_; (try clear hb); (try clear hb2); (try clear hk); (try clear hi)))
  go_loopg [7, 18] k (fun kq v7 v18 w' => ∃ (x7_1 : Int) (x18_1 : Int), v7 = .int .i64 x7_1 ∧ v18 = .int .i64 x18_1 ∧ Aside0 (collect_At.l0 kq l0 a1 x7_1 l0 (l0.length : Int) x18_1 = some (r1, r2, r3)) ∧ Aside0 (kq ≤ k) ∧ Aside0 (w'.heap[gb138]? = some (.cells #[.int .i64 0, .int .i64 0] 40 (0, 0))) ∧ Aside0 (Below w.heap.size w w'))
  case atStart => exact ⟨((-1)), (0), (by first | rfl | (simp; done) | (simp [*]; done)), (by first | rfl | (simp; done) | (simp [*]; done)), H', ⟨Nat.le_refl _⟩, ⟨by (with_reducible repeat (first | refine blk_drewN ?_ _ | refine blk_drew ?_ | refine blk_alloc ?_ _)); exact BK138.out⟩, ⟨by repeat (first | (with_reducible first | exact HB.out | apply below_alloc | apply pw_below_drewN | apply below_drew1 | refine below_set ?_ GE138.out) | exact HB.out)⟩⟩
  case round =>
   clear H'
   try clear c2
   try clear p2
   try clear c4
   try clear c4b0
   try clear c4b1
   obtain ⟨x7_1, x18_1, rfl, rfl, HA, HK1, BK138, HB⟩ := hrel
   cases gk with
   | zero => exact absurd HA.out (by simp [collect_At.l0])
   | succ k1 =>
    have H := HA.out
    clear HA
    simp only [collect_At.l0] at H
    by_cases c7 : x18_1 < (l0.length : Int)
    ·rw [if_pos c7] at H
     have c7b0 : decide (x18_1 < (l0.length : Int)) = true := decide_eq_true c7
     clear c7
     by_cases c8 : 0 ≤ x18_1
     ·rw [if_pos c8] at H
      have c8b0 : decide (0 ≤ x18_1) = true := decide_eq_true c8
      clear c8
      by_cases c9 : x18_1 < (l0.length : Int)
      ·rw [if_pos c9] at H
       have c9b0 : decide (x18_1 < (l0.length : Int)) = true := decide_eq_true c9
       clear c9
       by_cases c10 : ((rd_T42 l0 x18_1).f4) = 0
       ·rw [if_pos c10] at H
        have c10b0 : (((rd_T42 l0 x18_1).f4) == 0) = true := beq_iff_eq.mpr c10
        have c10b1 : (((rd_T42 l0 x18_1).f4) != 0) = false := bne_eq_false_iff_eq.mpr c10
        clear c10
        by_cases c11 : ((rd_T42 l0 x18_1).f1) ≤ a1
        ·rw [if_pos c11] at H
         have c11b0 : decide (((rd_T42 l0 x18_1).f1) ≤ a1) = true := decide_eq_true c11
         clear c11
         have H' := Aside0.mk H
         clear H
         have p140 : 0 ≤ (x18_1 : Int) := of_decide_eq_true (by first | (with_reducible assumption) | assumption)
         have q140 : x18_1 < (l0.length : Int) := of_decide_eq_true (by first | (with_reducible assumption) | assumption)
         obtain ⟨ad140, e140, hx140_0, hx140_1, hx140_2, hx140_3, hx140_4, hx140_5⟩ := at_T42 HR0.out x18_1 p140 q140
         cases e140
         replace hx140_0 := (HB.out.cell (World.block_lt_of_cell? w _ hx140_0)).trans hx140_0
         replace hx140_1 := (HB.out.cell (World.block_lt_of_cell? w _ hx140_1)).trans hx140_1
         replace hx140_2 := (HB.out.cell (World.block_lt_of_cell? w _ hx140_2)).trans hx140_2
         replace hx140_3 := (HB.out.cell (World.block_lt_of_cell? w _ hx140_3)).trans hx140_3
         replace hx140_4 := (HB.out.cell (World.block_lt_of_cell? w _ hx140_4)).trans hx140_4
         replace hx140_5 := (HB.out.cell (World.block_lt_of_cell? w _ hx140_5)).trans hx140_5
         replace p140 := eq_true p140
         replace q140 := eq_true q140
         go_wp2_with (first | ((with_reducible refine gate_dst (N := 9) rfl ?_); refine box_event ?hg (N := 9) ?hd (cs := #[.int .i64 0, .int .i64 0, .int .i64 0, .int .i64 0, .int .i64 0, .int .i64 0]) (t := 42) ?hr ?_; (case hd => rfl); (case hg => rfl); (case hr => first | (go_simp; done) | (go_simp; rfl)); intro gb141 hg w12 hbox hb; have n0_ := Aside0.mk (blk_below (g := gb138) (o := .cells #[.int .i64 0, .int .i64 0] 40 (0, 0)) (by (with_reducible repeat (first | refine blk_drewN ?_ _ | refine blk_drew ?_ | refine blk_alloc ?_ _)); exact BK138.out) hb); have n1_ := Aside0.mk (below_step (by repeat (first | (with_reducible first | exact HB.out | apply below_alloc | apply pw_below_drewN | apply below_drew1 | refine below_set ?_ GE138.out) | exact HB.out)) hb); have n2_ := Aside0.mk (hbox); have n3_ := Aside0.mk ((by rw [hg]; exact (below_size (by repeat (first | (with_reducible first | exact HB.out | apply below_alloc | apply pw_below_drewN | apply below_drew1 | refine below_set ?_ GE138.out) | exact HB.out))) : w.heap.size ≤ gb141)); have n4_ := Aside0.mk ((by rw [hg]; exact (below_size (by repeat (first | (with_reducible first | exact HB.out | apply below_alloc | apply pw_below_drewN | apply below_drew1 | refine below_set ?_ GE138.out) | exact HB.out))) : w.heap.size ≤ gb141)); have n5_ := Aside0.mk ((by rw [hg]; exact Nat.ne_of_lt (blk_lt (g := gb138) (o := .cells #[.int .i64 0, .int .i64 0] 40 (0, 0)) (by (with_reducible repeat (first | refine blk_drewN ?_ _ | refine blk_drew ?_ | refine blk_alloc ?_ _)); exact BK138.out)) : gb138 ≠ gb141)); have n6_ := Aside0.mk ((by rw [hg]; exact Nat.ne_of_gt (blk_lt (g := gb138) (o := .cells #[.int .i64 0, .int .i64 0] 40 (0, 0)) (by (with_reducible repeat (first | refine blk_drewN ?_ _ | refine blk_drew ?_ | refine blk_alloc ?_ _)); exact BK138.out)) : gb141 ≠ gb138)); clear BK138; clear HB; have BK138 := n0_; have HB := n1_; have BK141 := n2_; have GW141 := n3_; have GE141 := n4_; have NB138_141 := n5_; have NB141_138 := n6_; clear n0_ n1_ n2_ n3_ n4_ n5_ n6_; clear hb hbox hg; have hnb13 := NB141_138.out; have hnc13 := NB138_141.out; have hcz14_0 : w12.cell? ⟨gb141, 0, none⟩ = some (.int .i64 0) := (blk_cell BK141.out 0).trans rfl; have hcz14_1 : w12.cell? ⟨gb141, 1, none⟩ = some (.int .i64 0) := (blk_cell BK141.out 1).trans rfl; have hcz14_2 : w12.cell? ⟨gb141, 2, none⟩ = some (.int .i64 0) := (blk_cell BK141.out 2).trans rfl; have hcz14_3 : w12.cell? ⟨gb141, 3, none⟩ = some (.int .i64 0) := (blk_cell BK141.out 3).trans rfl; have hcz14_4 : w12.cell? ⟨gb141, 4, none⟩ = some (.int .i64 0) := (blk_cell BK141.out 4).trans rfl; have hcz14_5 : w12.cell? ⟨gb141, 5, none⟩ = some (.int .i64 0) := (blk_cell BK141.out 5).trans rfl; have hfz14_0 := blk_frozen BK141.out 0; have hfz14_1 := blk_frozen BK141.out 1; have hfz14_2 := blk_frozen BK141.out 2; have hfz14_3 := blk_frozen BK141.out 3; have hfz14_4 := blk_frozen BK141.out 4; have hfz14_5 := blk_frozen BK141.out 5))
         go_roundg k1
         case measure => have := HK1.out; omega
         case rel => exact ⟨(x18_1), (wrap64 (x18_1 + 1)), (by first | rfl | (simp; done) | (simp [*]; done)), (by first | rfl | (simp; done) | (simp [*]; done)), H', ⟨by have := HK1.out; omega⟩, ⟨by (with_reducible repeat (first | refine blk_drewN ?_ _ | refine blk_drew ?_ | refine blk_alloc ?_ _)); refine blk_far ?_ NB138_141.out _; (with_reducible repeat (first | refine blk_drewN ?_ _ | refine blk_drew ?_ | refine blk_alloc ?_ _)); refine blk_far ?_ NB138_141.out _; (with_reducible repeat (first | refine blk_drewN ?_ _ | refine blk_drew ?_ | refine blk_alloc ?_ _)); refine blk_far ?_ NB138_141.out _; (with_reducible repeat (first | refine blk_drewN ?_ _ | refine blk_drew ?_ | refine blk_alloc ?_ _)); refine blk_far ?_ NB138_141.out _; (with_reducible repeat (first | refine blk_drewN ?_ _ | refine blk_drew ?_ | refine blk_alloc ?_ _)); refine blk_far ?_ NB138_141.out _; (with_reducible repeat (first | refine blk_drewN ?_ _ | refine blk_drew ?_ | refine blk_alloc ?_ _)); refine blk_far ?_ NB138_141.out _; (with_reducible repeat (first | refine blk_drewN ?_ _ | refine blk_drew ?_ | refine blk_alloc ?_ _)); exact BK138.out⟩, ⟨by repeat (first | (with_reducible first | exact HB.out | apply below_alloc | apply pw_below_drewN | apply below_drew1 | refine below_set ?_ GE138.out | refine below_set ?_ GE141.out) | exact HB.out)⟩⟩
        ·rw [if_neg c11] at H
         have c11b0 : decide (((rd_T42 l0 x18_1).f1) ≤ a1) = false := decide_eq_false c11
         clear c11
         have H' := Aside0.mk H
         clear H
         have p140 : 0 ≤ (x18_1 : Int) := of_decide_eq_true (by first | (with_reducible assumption) | assumption)
         have q140 : x18_1 < (l0.length : Int) := of_decide_eq_true (by first | (with_reducible assumption) | assumption)
         obtain ⟨ad140, e140, hx140_0, hx140_1, hx140_2, hx140_3, hx140_4, hx140_5⟩ := at_T42 HR0.out x18_1 p140 q140
         cases e140
         replace hx140_0 := (HB.out.cell (World.block_lt_of_cell? w _ hx140_0)).trans hx140_0
         replace hx140_1 := (HB.out.cell (World.block_lt_of_cell? w _ hx140_1)).trans hx140_1
         replace hx140_2 := (HB.out.cell (World.block_lt_of_cell? w _ hx140_2)).trans hx140_2
         replace hx140_3 := (HB.out.cell (World.block_lt_of_cell? w _ hx140_3)).trans hx140_3
         replace hx140_4 := (HB.out.cell (World.block_lt_of_cell? w _ hx140_4)).trans hx140_4
         replace hx140_5 := (HB.out.cell (World.block_lt_of_cell? w _ hx140_5)).trans hx140_5
         replace p140 := eq_true p140
         replace q140 := eq_true q140
         go_wp2_with (first | ((with_reducible refine gate_dst (N := 9) rfl ?_); refine box_event ?hg (N := 9) ?hd (cs := #[.int .i64 0, .int .i64 0, .int .i64 0, .int .i64 0, .int .i64 0, .int .i64 0]) (t := 42) ?hr ?_; (case hd => rfl); (case hg => rfl); (case hr => first | (go_simp; done) | (go_simp; rfl)); intro gb141 hg w15 hbox hb; have n0_ := Aside0.mk (blk_below (g := gb138) (o := .cells #[.int .i64 0, .int .i64 0] 40 (0, 0)) (by (with_reducible repeat (first | refine blk_drewN ?_ _ | refine blk_drew ?_ | refine blk_alloc ?_ _)); exact BK138.out) hb); have n1_ := Aside0.mk (below_step (by repeat (first | (with_reducible first | exact HB.out | apply below_alloc | apply pw_below_drewN | apply below_drew1 | refine below_set ?_ GE138.out) | exact HB.out)) hb); have n2_ := Aside0.mk (hbox); have n3_ := Aside0.mk ((by rw [hg]; exact (below_size (by repeat (first | (with_reducible first | exact HB.out | apply below_alloc | apply pw_below_drewN | apply below_drew1 | refine below_set ?_ GE138.out) | exact HB.out))) : w.heap.size ≤ gb141)); have n4_ := Aside0.mk ((by rw [hg]; exact (below_size (by repeat (first | (with_reducible first | exact HB.out | apply below_alloc | apply pw_below_drewN | apply below_drew1 | refine below_set ?_ GE138.out) | exact HB.out))) : w.heap.size ≤ gb141)); have n5_ := Aside0.mk ((by rw [hg]; exact Nat.ne_of_lt (blk_lt (g := gb138) (o := .cells #[.int .i64 0, .int .i64 0] 40 (0, 0)) (by (with_reducible repeat (first | refine blk_drewN ?_ _ | refine blk_drew ?_ | refine blk_alloc ?_ _)); exact BK138.out)) : gb138 ≠ gb141)); have n6_ := Aside0.mk ((by rw [hg]; exact Nat.ne_of_gt (blk_lt (g := gb138) (o := .cells #[.int .i64 0, .int .i64 0] 40 (0, 0)) (by (with_reducible repeat (first | refine blk_drewN ?_ _ | refine blk_drew ?_ | refine blk_alloc ?_ _)); exact BK138.out)) : gb141 ≠ gb138)); clear BK138; clear HB; have BK138 := n0_; have HB := n1_; have BK141 := n2_; have GW141 := n3_; have GE141 := n4_; have NB138_141 := n5_; have NB141_138 := n6_; clear n0_ n1_ n2_ n3_ n4_ n5_ n6_; clear hb hbox hg; have hnb16 := NB141_138.out; have hnc16 := NB138_141.out; have hcz17_0 : w15.cell? ⟨gb141, 0, none⟩ = some (.int .i64 0) := (blk_cell BK141.out 0).trans rfl; have hcz17_1 : w15.cell? ⟨gb141, 1, none⟩ = some (.int .i64 0) := (blk_cell BK141.out 1).trans rfl; have hcz17_2 : w15.cell? ⟨gb141, 2, none⟩ = some (.int .i64 0) := (blk_cell BK141.out 2).trans rfl; have hcz17_3 : w15.cell? ⟨gb141, 3, none⟩ = some (.int .i64 0) := (blk_cell BK141.out 3).trans rfl; have hcz17_4 : w15.cell? ⟨gb141, 4, none⟩ = some (.int .i64 0) := (blk_cell BK141.out 4).trans rfl; have hcz17_5 : w15.cell? ⟨gb141, 5, none⟩ = some (.int .i64 0) := (blk_cell BK141.out 5).trans rfl; have hfz17_0 := blk_frozen BK141.out 0; have hfz17_1 := blk_frozen BK141.out 1; have hfz17_2 := blk_frozen BK141.out 2; have hfz17_3 := blk_frozen BK141.out 3; have hfz17_4 := blk_frozen BK141.out 4; have hfz17_5 := blk_frozen BK141.out 5))
         go_roundg k1
         case measure => have := HK1.out; omega
         case rel => exact ⟨(x7_1), (wrap64 (x18_1 + 1)), (by first | rfl | (simp; done) | (simp [*]; done)), (by first | rfl | (simp; done) | (simp [*]; done)), H', ⟨by have := HK1.out; omega⟩, ⟨by (with_reducible repeat (first | refine blk_drewN ?_ _ | refine blk_drew ?_ | refine blk_alloc ?_ _)); refine blk_far ?_ NB138_141.out _; (with_reducible repeat (first | refine blk_drewN ?_ _ | refine blk_drew ?_ | refine blk_alloc ?_ _)); refine blk_far ?_ NB138_141.out _; (with_reducible repeat (first | refine blk_drewN ?_ _ | refine blk_drew ?_ | refine blk_alloc ?_ _)); refine blk_far ?_ NB138_141.out _; (with_reducible repeat (first | refine blk_drewN ?_ _ | refine blk_drew ?_ | refine blk_alloc ?_ _)); refine blk_far ?_ NB138_141.out _; (with_reducible repeat (first | refine blk_drewN ?_ _ | refine blk_drew ?_ | refine blk_alloc ?_ _)); refine blk_far ?_ NB138_141.out _; (with_reducible repeat (first | refine blk_drewN ?_ _ | refine blk_drew ?_ | refine blk_alloc ?_ _)); refine blk_far ?_ NB138_141.out _; (with_reducible repeat (first | refine blk_drewN ?_ _ | refine blk_drew ?_ | refine blk_alloc ?_ _)); exact BK138.out⟩, ⟨by repeat (first | (with_reducible first | exact HB.out | apply below_alloc | apply pw_below_drewN | apply below_drew1 | refine below_set ?_ GE138.out | refine below_set ?_ GE141.out) | exact HB.out)⟩⟩
       ·rw [if_neg c10] at H
        have c10b0 : (((rd_T42 l0 x18_1).f4) == 0) = false := beq_eq_false_iff_ne.mpr c10
        have c10b1 : (((rd_T42 l0 x18_1).f4) != 0) = true := bne_iff_ne.mpr c10
        have H' := Aside0.mk H
        clear H
        have p140 : 0 ≤ (x18_1 : Int) := of_decide_eq_true (by first | (with_reducible assumption) | assumption)
        have q140 : x18_1 < (l0.length : Int) := of_decide_eq_true (by first | (with_reducible assumption) | assumption)
        obtain ⟨ad140, e140, hx140_0, hx140_1, hx140_2, hx140_3, hx140_4, hx140_5⟩ := at_T42 HR0.out x18_1 p140 q140
        cases e140
        replace hx140_0 := (HB.out.cell (World.block_lt_of_cell? w _ hx140_0)).trans hx140_0
        replace hx140_1 := (HB.out.cell (World.block_lt_of_cell? w _ hx140_1)).trans hx140_1
        replace hx140_2 := (HB.out.cell (World.block_lt_of_cell? w _ hx140_2)).trans hx140_2
        replace hx140_3 := (HB.out.cell (World.block_lt_of_cell? w _ hx140_3)).trans hx140_3
        replace hx140_4 := (HB.out.cell (World.block_lt_of_cell? w _ hx140_4)).trans hx140_4
        replace hx140_5 := (HB.out.cell (World.block_lt_of_cell? w _ hx140_5)).trans hx140_5
        replace p140 := eq_true p140
        replace q140 := eq_true q140
        go_wp2_with (first | ((with_reducible refine gate_dst (N := 9) rfl ?_); refine box_event ?hg (N := 9) ?hd (cs := #[.int .i64 0, .int .i64 0, .int .i64 0, .int .i64 0, .int .i64 0, .int .i64 0]) (t := 42) ?hr ?_; (case hd => rfl); (case hg => rfl); (case hr => first | (go_simp; done) | (go_simp; rfl)); intro gb141 hg w18 hbox hb; have n0_ := Aside0.mk (blk_below (g := gb138) (o := .cells #[.int .i64 0, .int .i64 0] 40 (0, 0)) (by (with_reducible repeat (first | refine blk_drewN ?_ _ | refine blk_drew ?_ | refine blk_alloc ?_ _)); exact BK138.out) hb); have n1_ := Aside0.mk (below_step (by repeat (first | (with_reducible first | exact HB.out | apply below_alloc | apply pw_below_drewN | apply below_drew1 | refine below_set ?_ GE138.out) | exact HB.out)) hb); have n2_ := Aside0.mk (hbox); have n3_ := Aside0.mk ((by rw [hg]; exact (below_size (by repeat (first | (with_reducible first | exact HB.out | apply below_alloc | apply pw_below_drewN | apply below_drew1 | refine below_set ?_ GE138.out) | exact HB.out))) : w.heap.size ≤ gb141)); have n4_ := Aside0.mk ((by rw [hg]; exact (below_size (by repeat (first | (with_reducible first | exact HB.out | apply below_alloc | apply pw_below_drewN | apply below_drew1 | refine below_set ?_ GE138.out) | exact HB.out))) : w.heap.size ≤ gb141)); have n5_ := Aside0.mk ((by rw [hg]; exact Nat.ne_of_lt (blk_lt (g := gb138) (o := .cells #[.int .i64 0, .int .i64 0] 40 (0, 0)) (by (with_reducible repeat (first | refine blk_drewN ?_ _ | refine blk_drew ?_ | refine blk_alloc ?_ _)); exact BK138.out)) : gb138 ≠ gb141)); have n6_ := Aside0.mk ((by rw [hg]; exact Nat.ne_of_gt (blk_lt (g := gb138) (o := .cells #[.int .i64 0, .int .i64 0] 40 (0, 0)) (by (with_reducible repeat (first | refine blk_drewN ?_ _ | refine blk_drew ?_ | refine blk_alloc ?_ _)); exact BK138.out)) : gb141 ≠ gb138)); clear BK138; clear HB; have BK138 := n0_; have HB := n1_; have BK141 := n2_; have GW141 := n3_; have GE141 := n4_; have NB138_141 := n5_; have NB141_138 := n6_; clear n0_ n1_ n2_ n3_ n4_ n5_ n6_; clear hb hbox hg; have hnb19 := NB141_138.out; have hnc19 := NB138_141.out; have hcz20_0 : w18.cell? ⟨gb141, 0, none⟩ = some (.int .i64 0) := (blk_cell BK141.out 0).trans rfl; have hcz20_1 : w18.cell? ⟨gb141, 1, none⟩ = some (.int .i64 0) := (blk_cell BK141.out 1).trans rfl; have hcz20_2 : w18.cell? ⟨gb141, 2, none⟩ = some (.int .i64 0) := (blk_cell BK141.out 2).trans rfl; have hcz20_3 : w18.cell? ⟨gb141, 3, none⟩ = some (.int .i64 0) := (blk_cell BK141.out 3).trans rfl; have hcz20_4 : w18.cell? ⟨gb141, 4, none⟩ = some (.int .i64 0) := (blk_cell BK141.out 4).trans rfl; have hcz20_5 : w18.cell? ⟨gb141, 5, none⟩ = some (.int .i64 0) := (blk_cell BK141.out 5).trans rfl; have hfz20_0 := blk_frozen BK141.out 0; have hfz20_1 := blk_frozen BK141.out 1; have hfz20_2 := blk_frozen BK141.out 2; have hfz20_3 := blk_frozen BK141.out 3; have hfz20_4 := blk_frozen BK141.out 4; have hfz20_5 := blk_frozen BK141.out 5))
        go_roundg k1
        case measure => have := HK1.out; omega
        case rel => exact ⟨(x7_1), (wrap64 (x18_1 + 1)), (by first | rfl | (simp; done) | (simp [*]; done)), (by first | rfl | (simp; done) | (simp [*]; done)), H', ⟨by have := HK1.out; omega⟩, ⟨by (with_reducible repeat (first | refine blk_drewN ?_ _ | refine blk_drew ?_ | refine blk_alloc ?_ _)); refine blk_far ?_ NB138_141.out _; (with_reducible repeat (first | refine blk_drewN ?_ _ | refine blk_drew ?_ | refine blk_alloc ?_ _)); refine blk_far ?_ NB138_141.out _; (with_reducible repeat (first | refine blk_drewN ?_ _ | refine blk_drew ?_ | refine blk_alloc ?_ _)); refine blk_far ?_ NB138_141.out _; (with_reducible repeat (first | refine blk_drewN ?_ _ | refine blk_drew ?_ | refine blk_alloc ?_ _)); refine blk_far ?_ NB138_141.out _; (with_reducible repeat (first | refine blk_drewN ?_ _ | refine blk_drew ?_ | refine blk_alloc ?_ _)); refine blk_far ?_ NB138_141.out _; (with_reducible repeat (first | refine blk_drewN ?_ _ | refine blk_drew ?_ | refine blk_alloc ?_ _)); refine blk_far ?_ NB138_141.out _; (with_reducible repeat (first | refine blk_drewN ?_ _ | refine blk_drew ?_ | refine blk_alloc ?_ _)); exact BK138.out⟩, ⟨by repeat (first | (with_reducible first | exact HB.out | apply below_alloc | apply pw_below_drewN | apply below_drew1 | refine below_set ?_ GE138.out | refine below_set ?_ GE141.out) | exact HB.out)⟩⟩
      ·rw [if_neg c9] at H
       exact absurd H (by simp)
     ·rw [if_neg c8] at H
      exact absurd H (by simp)
    ·rw [if_neg c7] at H
     have c7b0 : decide (x18_1 < (l0.length : Int)) = false := decide_eq_false c7
     clear c7
     by_cases c21 : x7_1 < 0
     ·rw [if_pos c21] at H
      have c21b0 : decide (x7_1 < 0) = true := decide_eq_true c21
      clear c21
      simp only [Option.some.injEq, Prod.mk.injEq] at H
      obtain ⟨rfl, rfl, rfl⟩ := H
      have hcz22_0 : wr.cell? ⟨gb138, 0, none⟩ = some (.int .i64 0) := (blk_cell BK138.out 0).trans rfl
      have hcz22_1 : wr.cell? ⟨gb138, 1, none⟩ = some (.int .i64 0) := (blk_cell BK138.out 1).trans rfl
      have hfz22_0 := blk_frozen BK138.out 0
      have hfz22_1 := blk_frozen BK138.out 1
      go_wp2
      refine bodyPost_ret (results_ct rfl _ _ gb138 40 #[.int .i64 0, .int .i64 0] (0, 0) _ rfl (by (with_reducible repeat (first | refine blk_drewN ?_ _ | refine blk_drew ?_ | refine blk_alloc ?_ _)); refine blk_put (cs := #[.int .i64 0, .int .i64 0]) ?_ 1 _ rfl; (with_reducible repeat (first | refine blk_drewN ?_ _ | refine blk_drew ?_ | refine blk_alloc ?_ _)); refine blk_put (cs := #[.int .i64 0, .int .i64 0]) ?_ 0 _ rfl; (with_reducible repeat (first | refine blk_drewN ?_ _ | refine blk_drew ?_ | refine blk_alloc ?_ _)); exact BK138.out) Try.underlying40 rfl (by kernel_rfl)) rfl ?_
      exact ⟨by first | rfl | (simp [errW_none, errW_some] <;> rfl) | (simp [*, errW_none, errW_some] <;> rfl), by repeat (first | (with_reducible first | exact HB.out | apply below_alloc | apply pw_below_drewN | apply below_drew1 | refine below_set ?_ GE138.out) | exact HB.out)⟩
     ·rw [if_neg c21] at H
      have c21b0 : decide (x7_1 < 0) = false := decide_eq_false c21
      clear c21
      by_cases c23 : (wrap64 (x7_1 + 1)) < (l0.length : Int)
      ·rw [if_pos c23] at H
       have c23b0 : decide ((wrap64 (x7_1 + 1)) < (l0.length : Int)) = true := decide_eq_true c23
       clear c23
       obtain ⟨ji24, hji24⟩ : ∃ j_ : Int, (wrap64 (x7_1 + 1)) = j_ := ⟨_, rfl⟩
       replace H : (if 0 ≤ (ji24) then (if ((rd_T42 l0 (ji24)).f4) > 0 then (some (0, 0, 8)) else (if 0 ≤ x7_1 then (if x7_1 < (l0.length : Int) then (some ((rd_T42 l0 x7_1).f2.f0, (rd_T42 l0 x7_1).f2.f1, 0)) else (none)) else (none))) else (none)) = some (r1, r2, r3) := by first | (rw [hji24] at H; exact H) | (simp only [hji24] at H ⊢; exact H)
       (try rw [hji24] at c23)
       (try rw [hji24] at c23b0)
       have hji24w : (IntKind.i64.wrap (x7_1 + 1)) = ji24 := (i64_w _).trans hji24
       by_cases c25 : 0 ≤ (ji24)
       ·rw [if_pos c25] at H
        have c25b0 : decide (0 ≤ (ji24)) = true := decide_eq_true c25
        clear c25
        by_cases c26 : ((rd_T42 l0 (ji24)).f4) > 0
        ·rw [if_pos c26] at H
         have c26b0 : decide (0 < ((rd_T42 l0 (ji24)).f4)) = true := decide_eq_true c26
         clear c26
         simp only [Option.some.injEq, Prod.mk.injEq] at H
         obtain ⟨rfl, rfl, rfl⟩ := H
         have p142 : 0 ≤ ((ji24) : Int) := of_decide_eq_true (by first | (with_reducible assumption) | assumption)
         have q142 : (ji24) < (l0.length : Int) := of_decide_eq_true (by first | (with_reducible assumption) | assumption)
         obtain ⟨ad142, e142, hx142_0, hx142_1, hx142_2, hx142_3, hx142_4, hx142_5⟩ := at_T42 HR0.out (ji24) p142 q142
         cases e142
         replace hx142_0 := (HB.out.cell (World.block_lt_of_cell? w _ hx142_0)).trans hx142_0
         replace hx142_1 := (HB.out.cell (World.block_lt_of_cell? w _ hx142_1)).trans hx142_1
         replace hx142_2 := (HB.out.cell (World.block_lt_of_cell? w _ hx142_2)).trans hx142_2
         replace hx142_3 := (HB.out.cell (World.block_lt_of_cell? w _ hx142_3)).trans hx142_3
         replace hx142_4 := (HB.out.cell (World.block_lt_of_cell? w _ hx142_4)).trans hx142_4
         replace hx142_5 := (HB.out.cell (World.block_lt_of_cell? w _ hx142_5)).trans hx142_5
         replace p142 := eq_true p142
         replace q142 := eq_true q142
         have hcz27_0 : wr.cell? ⟨gb138, 0, none⟩ = some (.int .i64 0) := (blk_cell BK138.out 0).trans rfl
         have hcz27_1 : wr.cell? ⟨gb138, 1, none⟩ = some (.int .i64 0) := (blk_cell BK138.out 1).trans rfl
         have hfz27_0 := blk_frozen BK138.out 0
         have hfz27_1 := blk_frozen BK138.out 1
         go_wp2
         refine bodyPost_ret (results_ct rfl _ _ gb138 40 #[.int .i64 0, .int .i64 0] (0, 0) _ rfl (by (with_reducible repeat (first | refine blk_drewN ?_ _ | refine blk_drew ?_ | refine blk_alloc ?_ _)); refine blk_put (cs := #[.int .i64 0, .int .i64 0]) ?_ 1 _ rfl; (with_reducible repeat (first | refine blk_drewN ?_ _ | refine blk_drew ?_ | refine blk_alloc ?_ _)); refine blk_put (cs := #[.int .i64 0, .int .i64 0]) ?_ 0 _ rfl; (with_reducible repeat (first | refine blk_drewN ?_ _ | refine blk_drew ?_ | refine blk_alloc ?_ _)); exact BK138.out) Try.underlying40 rfl (by kernel_rfl)) rfl ?_
         exact ⟨by first | rfl | (simp [errW_none, errW_some] <;> rfl) | (simp only [← hji24]; first | rfl | (simp [errW_none, errW_some] <;> rfl)) | (simp [*, errW_none, errW_some] <;> rfl), by repeat (first | (with_reducible first | exact HB.out | apply below_alloc | apply pw_below_drewN | apply below_drew1 | refine below_set ?_ GE138.out) | exact HB.out)⟩
        ·rw [if_neg c26] at H
         have c26b0 : decide (0 < ((rd_T42 l0 (ji24)).f4)) = false := decide_eq_false c26
         clear c26
         by_cases c28 : 0 ≤ x7_1
         ·rw [if_pos c28] at H
          have c28b0 : decide (0 ≤ x7_1) = true := decide_eq_true c28
          clear c28
          by_cases c29 : x7_1 < (l0.length : Int)
          ·rw [if_pos c29] at H
           have c29b0 : decide (x7_1 < (l0.length : Int)) = true := decide_eq_true c29
           clear c29
           simp only [Option.some.injEq, Prod.mk.injEq] at H
           obtain ⟨rfl, rfl, rfl⟩ := H
           have p142 : 0 ≤ ((ji24) : Int) := of_decide_eq_true (by first | (with_reducible assumption) | assumption)
           have q142 : (ji24) < (l0.length : Int) := of_decide_eq_true (by first | (with_reducible assumption) | assumption)
           obtain ⟨ad142, e142, hx142_0, hx142_1, hx142_2, hx142_3, hx142_4, hx142_5⟩ := at_T42 HR0.out (ji24) p142 q142
           cases e142
           replace hx142_0 := (HB.out.cell (World.block_lt_of_cell? w _ hx142_0)).trans hx142_0
           replace hx142_1 := (HB.out.cell (World.block_lt_of_cell? w _ hx142_1)).trans hx142_1
           replace hx142_2 := (HB.out.cell (World.block_lt_of_cell? w _ hx142_2)).trans hx142_2
           replace hx142_3 := (HB.out.cell (World.block_lt_of_cell? w _ hx142_3)).trans hx142_3
           replace hx142_4 := (HB.out.cell (World.block_lt_of_cell? w _ hx142_4)).trans hx142_4
           replace hx142_5 := (HB.out.cell (World.block_lt_of_cell? w _ hx142_5)).trans hx142_5
           replace p142 := eq_true p142
           replace q142 := eq_true q142
           have p143 : 0 ≤ (x7_1 : Int) := of_decide_eq_true (by first | (with_reducible assumption) | assumption)
           have q143 : x7_1 < (l0.length : Int) := of_decide_eq_true (by first | (with_reducible assumption) | assumption)
           obtain ⟨ad143, e143, hx143_0, hx143_1, hx143_2, hx143_3, hx143_4, hx143_5⟩ := at_T42 HR0.out x7_1 p143 q143
           obtain rfl : ad142 = ad143 := (by injection e143)
           replace hx143_0 := (HB.out.cell (World.block_lt_of_cell? w _ hx143_0)).trans hx143_0
           replace hx143_1 := (HB.out.cell (World.block_lt_of_cell? w _ hx143_1)).trans hx143_1
           replace hx143_2 := (HB.out.cell (World.block_lt_of_cell? w _ hx143_2)).trans hx143_2
           replace hx143_3 := (HB.out.cell (World.block_lt_of_cell? w _ hx143_3)).trans hx143_3
           replace hx143_4 := (HB.out.cell (World.block_lt_of_cell? w _ hx143_4)).trans hx143_4
           replace hx143_5 := (HB.out.cell (World.block_lt_of_cell? w _ hx143_5)).trans hx143_5
           replace p143 := eq_true p143
           replace q143 := eq_true q143
           have hcz30_0 : wr.cell? ⟨gb138, 0, none⟩ = some (.int .i64 0) := (blk_cell BK138.out 0).trans rfl
           have hcz30_1 : wr.cell? ⟨gb138, 1, none⟩ = some (.int .i64 0) := (blk_cell BK138.out 1).trans rfl
           have hfz30_0 := blk_frozen BK138.out 0
           have hfz30_1 := blk_frozen BK138.out 1
           go_wp2
           refine bodyPost_ret (results_ct rfl _ _ gb138 40 #[.int .i64 ((rd_T42 l0 x7_1).f2.f0), .int .i64 ((rd_T42 l0 x7_1).f2.f1)] (0, 0) _ rfl (by (with_reducible repeat (first | refine blk_drewN ?_ _ | refine blk_drew ?_ | refine blk_alloc ?_ _)); refine blk_put (cs := #[.int .i64 ((rd_T42 l0 x7_1).f2.f0), .int .i64 0]) ?_ 1 _ rfl; (with_reducible repeat (first | refine blk_drewN ?_ _ | refine blk_drew ?_ | refine blk_alloc ?_ _)); refine blk_put (cs := #[.int .i64 0, .int .i64 0]) ?_ 0 _ rfl; (with_reducible repeat (first | refine blk_drewN ?_ _ | refine blk_drew ?_ | refine blk_alloc ?_ _)); exact BK138.out) Try.underlying40 rfl (by kernel_rfl)) rfl ?_
           exact ⟨by first | rfl | (simp [errW_none, errW_some] <;> rfl) | (simp only [← hji24]; first | rfl | (simp [errW_none, errW_some] <;> rfl)) | (simp [*, errW_none, errW_some] <;> rfl), by repeat (first | (with_reducible first | exact HB.out | apply below_alloc | apply pw_below_drewN | apply below_drew1 | refine below_set ?_ GE138.out) | exact HB.out)⟩
          ·rw [if_neg c29] at H
           exact absurd H (by simp)
         ·rw [if_neg c28] at H
          exact absurd H (by simp)
       ·rw [if_neg c25] at H
        exact absurd H (by simp)
      ·rw [if_neg c23] at H
       have c23b0 : decide ((wrap64 (x7_1 + 1)) < (l0.length : Int)) = false := decide_eq_false c23
       clear c23
       by_cases c31 : 0 ≤ x7_1
       ·rw [if_pos c31] at H
        have c31b0 : decide (0 ≤ x7_1) = true := decide_eq_true c31
        clear c31
        by_cases c32 : x7_1 < (l0.length : Int)
        ·rw [if_pos c32] at H
         have c32b0 : decide (x7_1 < (l0.length : Int)) = true := decide_eq_true c32
         clear c32
         simp only [Option.some.injEq, Prod.mk.injEq] at H
         obtain ⟨rfl, rfl, rfl⟩ := H
         have p144 : 0 ≤ (x7_1 : Int) := of_decide_eq_true (by first | (with_reducible assumption) | assumption)
         have q144 : x7_1 < (l0.length : Int) := of_decide_eq_true (by first | (with_reducible assumption) | assumption)
         obtain ⟨ad144, e144, hx144_0, hx144_1, hx144_2, hx144_3, hx144_4, hx144_5⟩ := at_T42 HR0.out x7_1 p144 q144
         cases e144
         replace hx144_0 := (HB.out.cell (World.block_lt_of_cell? w _ hx144_0)).trans hx144_0
         replace hx144_1 := (HB.out.cell (World.block_lt_of_cell? w _ hx144_1)).trans hx144_1
         replace hx144_2 := (HB.out.cell (World.block_lt_of_cell? w _ hx144_2)).trans hx144_2
         replace hx144_3 := (HB.out.cell (World.block_lt_of_cell? w _ hx144_3)).trans hx144_3
         replace hx144_4 := (HB.out.cell (World.block_lt_of_cell? w _ hx144_4)).trans hx144_4
         replace hx144_5 := (HB.out.cell (World.block_lt_of_cell? w _ hx144_5)).trans hx144_5
         replace p144 := eq_true p144
         replace q144 := eq_true q144
         have hcz33_0 : wr.cell? ⟨gb138, 0, none⟩ = some (.int .i64 0) := (blk_cell BK138.out 0).trans rfl
         have hcz33_1 : wr.cell? ⟨gb138, 1, none⟩ = some (.int .i64 0) := (blk_cell BK138.out 1).trans rfl
         have hfz33_0 := blk_frozen BK138.out 0
         have hfz33_1 := blk_frozen BK138.out 1
         go_wp2
         refine bodyPost_ret (results_ct rfl _ _ gb138 40 #[.int .i64 ((rd_T42 l0 x7_1).f2.f0), .int .i64 ((rd_T42 l0 x7_1).f2.f1)] (0, 0) _ rfl (by (with_reducible repeat (first | refine blk_drewN ?_ _ | refine blk_drew ?_ | refine blk_alloc ?_ _)); refine blk_put (cs := #[.int .i64 ((rd_T42 l0 x7_1).f2.f0), .int .i64 0]) ?_ 1 _ rfl; (with_reducible repeat (first | refine blk_drewN ?_ _ | refine blk_drew ?_ | refine blk_alloc ?_ _)); refine blk_put (cs := #[.int .i64 0, .int .i64 0]) ?_ 0 _ rfl; (with_reducible repeat (first | refine blk_drewN ?_ _ | refine blk_drew ?_ | refine blk_alloc ?_ _)); exact BK138.out) Try.underlying40 rfl (by kernel_rfl)) rfl ?_
         exact ⟨by first | rfl | (simp [errW_none, errW_some] <;> rfl) | (simp [*, errW_none, errW_some] <;> rfl), by repeat (first | (with_reducible first | exact HB.out | apply below_alloc | apply pw_below_drewN | apply below_drew1 | refine below_set ?_ GE138.out) | exact HB.out)⟩
        ·rw [if_neg c32] at H
         exact absurd H (by simp)
       ·rw [if_neg c31] at H
        exact absurd H (by simp)
 ·rw [if_neg c4] at H
  have c4b0 : (t139 == 0) = false := beq_eq_false_iff_ne.mpr c4
  have c4b1 : (t139 != 0) = true := bne_iff_ne.mpr c4
  simp only [Option.some.injEq, Prod.mk.injEq] at H
  obtain ⟨rfl, rfl, rfl⟩ := H
  go_enter Try.func27, Try.ntmps27
  go_wp2_with (first | ((with_reducible refine gate_dst (N := 4) rfl ?_); refine box_event ?hg (N := 4) ?hd (cs := #[.int .i64 0, .int .i64 0]) (t := 40) ?hr ?_; (case hd => rfl); (case hg => rfl); (case hr => first | (go_simp; done) | (go_simp; rfl)); intro gb138 hg w34 hbox hb; have n0_ := Aside0.mk (below_step (by repeat (first | (with_reducible first | exact HB.out | apply below_alloc | apply pw_below_drewN | apply below_drew1) | exact HB.out)) hb); have n1_ := Aside0.mk (hbox); have n2_ := Aside0.mk ((by rw [hg]; exact (below_size (by repeat (first | (with_reducible first | exact HB.out | apply below_alloc | apply pw_below_drewN | apply below_drew1) | exact HB.out))) : w.heap.size ≤ gb138)); have n3_ := Aside0.mk ((by rw [hg]; exact (below_size (by repeat (first | (with_reducible first | exact HB.out | apply below_alloc | apply pw_below_drewN | apply below_drew1) | exact HB.out))) : w.heap.size ≤ gb138)); clear HB; have HB := n0_; have BK138 := n1_; have GW138 := n2_; have GE138 := n3_; clear n0_ n1_ n2_ n3_; clear hb hbox hg) | ((with_reducible refine gate_callee (f := 21) rfl ?_); refine goesL_ (some 11) rfl rfl Try.func21 (by kernel_rfl) rfl #[.slice A0 l0.length c0] rfl (by (try simp only [List.map_toArray, List.map_cons, List.map_nil]); first | done | rfl | (simp only [List.length_drop, List.length_take]; rfl)) ?_; (with_reducible refine (collect_Check.calls k _ _ l0 t139 _ ?side1 ?side2 A3.out).mono ?_); (case side1 => repeat (first | exact (Kd.C_below HR0.out HB.out) | (with_reducible refine Kd.C_alloc ?_ _) | (with_reducible refine Kd.C_drewN ?_ _) | (with_reducible refine Kd.C_drew ?_))); (case side2 => exact HC0.out); rintro e w35 ⟨rfl, hb⟩; refine ⟨_, rfl, ?_⟩; have n0_ := Aside0.mk (blk_below (g := gb138) (o := .cells #[.int .i64 0, .int .i64 0] 40 (0, 0)) (by (with_reducible repeat (first | refine blk_drewN ?_ _ | refine blk_drew ?_ | refine blk_alloc ?_ _)); exact BK138.out) hb); have n1_ := Aside0.mk (below_step (by repeat (first | (with_reducible first | exact HB.out | apply below_alloc | apply pw_below_drewN | apply below_drew1 | refine below_set ?_ GE138.out) | exact HB.out)) hb); clear BK138; clear HB; have BK138 := n0_; have HB := n1_; clear n0_ n1_; (try clear hb); (try clear hb2); (try clear hk); (try clear hi); have hcz36_0 : w35.cell? ⟨gb138, 0, none⟩ = some (.int .i64 0) := (blk_cell BK138.out 0).trans rfl; have hcz36_1 : w35.cell? ⟨gb138, 1, none⟩ = some (.int .i64 0) := (blk_cell BK138.out 1).trans rfl; have hfz36_0 := blk_frozen BK138.out 0; have hfz36_1 := blk_frozen BK138.out 1))
  refine bodyPost_ret (results_ct rfl _ _ gb138 40 #[.int .i64 0, .int .i64 0] (0, 0) _ rfl (by (with_reducible repeat (first | refine blk_drewN ?_ _ | refine blk_drew ?_ | refine blk_alloc ?_ _)); refine blk_put (cs := #[.int .i64 0, .int .i64 0]) ?_ 1 _ rfl; (with_reducible repeat (first | refine blk_drewN ?_ _ | refine blk_drew ?_ | refine blk_alloc ?_ _)); refine blk_put (cs := #[.int .i64 0, .int .i64 0]) ?_ 0 _ rfl; (with_reducible repeat (first | refine blk_drewN ?_ _ | refine blk_drew ?_ | refine blk_alloc ?_ _)); exact BK138.out) Try.underlying40 rfl (by kernel_rfl)) rfl ?_
  exact ⟨by first | rfl | (simp [errW_none, errW_some] <;> rfl) | (simp [*, errW_none, errW_some] <;> rfl), by repeat (first | (with_reducible first | exact HB.out | apply below_alloc | apply pw_below_drewN | apply below_drew1 | refine below_set ?_ GE138.out) | exact HB.out)⟩

/-! ### plenumlaw42_awake: function 10 -/
def plenumlaw42_awake.f (k : Nat)  : Option (Bool) := (collect_New.f).bind fun t145 => ((plenumlaw42_plain.f k 1 3).bind fun t147 => ((collect_Collector_Take.f k t145 t147).bind fun bt150 => ((plenumlaw42_plain.f k 2 5).bind fun t153 => ((collect_Collector_Take.f k bt150.2.2 t153).bind fun bt156 => ((plenumlaw42_plain.f k 9 10).bind fun t159 => ((collect_Collector_Take.f k bt156.2.2 t159).bind fun bt162 => ((collect_Collector_Records.f bt162.2.2).bind fun bt165 => ((collect_At.f k bt165.1 60).bind fun bt169 => (if bt150.2.1 = 0 then (if bt150.1 = 3 then (if bt156.2.1 = 0 then (if bt156.1 = 2 then (if bt162.2.1 = 0 then (if (bt165.1.length : Int) = 8 then (if 5 < (bt165.1.length : Int) then (if (((rd_T42 bt165.1 5).f0) == 8 && (((rd_T42 bt165.1 5).f1) == 0 && ((((rd_T42 bt165.1 5).f2.f0) == 0 && (((rd_T42 bt165.1 5).f2.f1) == 0)) && (((rd_T42 bt165.1 5).f3) == 0 && (((rd_T42 bt165.1 5).f4) == 3))))) = true then ((collect_Collector_Lost.f k bt165.2).bind fun bt174 => (if bt174.1 = 3 then ((collect_Collector_From.f bt174.2).bind fun bt176 => (if bt176.1 = 11 then (some (bt169.2.2 == 8)) else (none))) else (none))) else (none)) else (none)) else (none)) else (none)) else (none)) else (none)) else (none)) else (none))))))))))
theorem plenumlaw42_awake.mono : ∀ k, LeO (plenumlaw42_awake.f k ) (plenumlaw42_awake.f (k + 1) ) := by
 intro  k
 unfold plenumlaw42_awake.f
 repeat' first
   | (with_reducible exact collect_At.mono _ _ _)
   | (with_reducible exact collect_Collector_Lost.mono _ _)
   | (with_reducible exact collect_Collector_Take.mono _ _ _)
   | (with_reducible exact plenumlaw42_plain.mono _ _ _)
   | (with_reducible exact LeO.refl _)
   | (with_reducible exact LeO.none _)
   | (with_reducible refine LeO.ite ?_ ?_)
   | (with_reducible refine LeO.bind ?_ (fun _ => ?_))
   | exact collect_At.mono _ _ _
   | exact collect_Collector_Lost.mono _ _
   | exact collect_Collector_Take.mono _ _ _
   | exact plenumlaw42_plain.mono _ _ _
   | exact LeO.none _
   | refine LeO.ite ?_ ?_
   | refine LeO.bind ?_ (fun _ => ?_)
set_option maxHeartbeats 8000000 in
set_option maxRecDepth 100000 in
theorem plenumlaw42_awake.calls (k : Nat)  (r : Bool) (w : World) (h : plenumlaw42_awake.f k  = some r) :
  Calls Try.prog 10 #[] w fun e w' => e = .returned (.bool r) ∧ Below w.heap.size w w' := by
 have hu40 := Try.underlying40
 have hu42 := Try.underlying42
 have HB := Aside0.mk (Below.refl w.heap.size w)
 have H : ((collect_New.f).bind fun t145 => ((plenumlaw42_plain.f k 1 3).bind fun t147 => ((collect_Collector_Take.f k t145 t147).bind fun bt150 => ((plenumlaw42_plain.f k 2 5).bind fun t153 => ((collect_Collector_Take.f k bt150.2.2 t153).bind fun bt156 => ((plenumlaw42_plain.f k 9 10).bind fun t159 => ((collect_Collector_Take.f k bt156.2.2 t159).bind fun bt162 => ((collect_Collector_Records.f bt162.2.2).bind fun bt165 => ((collect_At.f k bt165.1 60).bind fun bt169 => (if bt150.2.1 = 0 then (if bt150.1 = 3 then (if bt156.2.1 = 0 then (if bt156.1 = 2 then (if bt162.2.1 = 0 then (if (bt165.1.length : Int) = 8 then (if 5 < (bt165.1.length : Int) then (if (((rd_T42 bt165.1 5).f0) == 8 && (((rd_T42 bt165.1 5).f1) == 0 && ((((rd_T42 bt165.1 5).f2.f0) == 0 && (((rd_T42 bt165.1 5).f2.f1) == 0)) && (((rd_T42 bt165.1 5).f3) == 0 && (((rd_T42 bt165.1 5).f4) == 3))))) = true then ((collect_Collector_Lost.f k bt165.2).bind fun bt174 => (if bt174.1 = 3 then ((collect_Collector_From.f bt174.2).bind fun bt176 => (if bt176.1 = 11 then (some (bt169.2.2 == 8)) else (none))) else (none))) else (none)) else (none)) else (none)) else (none)) else (none)) else (none)) else (none)) else (none))))))))))) = some r := h
 clear h
 replace H := Option.bind_eq_some_iff.mp H
 obtain ⟨t145, A10, H⟩ := H
 replace H : ((plenumlaw42_plain.f k 1 3).bind fun t147 => ((collect_Collector_Take.f k t145 t147).bind fun bt150 => ((plenumlaw42_plain.f k 2 5).bind fun t153 => ((collect_Collector_Take.f k bt150.2.2 t153).bind fun bt156 => ((plenumlaw42_plain.f k 9 10).bind fun t159 => ((collect_Collector_Take.f k bt156.2.2 t159).bind fun bt162 => ((collect_Collector_Records.f bt162.2.2).bind fun bt165 => ((collect_At.f k bt165.1 60).bind fun bt169 => (if bt150.2.1 = 0 then (if bt150.1 = 3 then (if bt156.2.1 = 0 then (if bt156.1 = 2 then (if bt162.2.1 = 0 then (if (bt165.1.length : Int) = 8 then (if 5 < (bt165.1.length : Int) then (if (((rd_T42 bt165.1 5).f0) == 8 && (((rd_T42 bt165.1 5).f1) == 0 && ((((rd_T42 bt165.1 5).f2.f0) == 0 && (((rd_T42 bt165.1 5).f2.f1) == 0)) && (((rd_T42 bt165.1 5).f3) == 0 && (((rd_T42 bt165.1 5).f4) == 3))))) = true then ((collect_Collector_Lost.f k bt165.2).bind fun bt174 => (if bt174.1 = 3 then ((collect_Collector_From.f bt174.2).bind fun bt176 => (if bt176.1 = 11 then (some (bt169.2.2 == 8)) else (none))) else (none))) else (none)) else (none)) else (none)) else (none)) else (none)) else (none)) else (none)) else (none)))))))))) = some r := H
 have A1 := Aside0.mk A10
 clear A10
 replace H := Option.bind_eq_some_iff.mp H
 obtain ⟨t147, A20, H⟩ := H
 replace H : ((collect_Collector_Take.f k t145 t147).bind fun bt150 => ((plenumlaw42_plain.f k 2 5).bind fun t153 => ((collect_Collector_Take.f k bt150.2.2 t153).bind fun bt156 => ((plenumlaw42_plain.f k 9 10).bind fun t159 => ((collect_Collector_Take.f k bt156.2.2 t159).bind fun bt162 => ((collect_Collector_Records.f bt162.2.2).bind fun bt165 => ((collect_At.f k bt165.1 60).bind fun bt169 => (if bt150.2.1 = 0 then (if bt150.1 = 3 then (if bt156.2.1 = 0 then (if bt156.1 = 2 then (if bt162.2.1 = 0 then (if (bt165.1.length : Int) = 8 then (if 5 < (bt165.1.length : Int) then (if (((rd_T42 bt165.1 5).f0) == 8 && (((rd_T42 bt165.1 5).f1) == 0 && ((((rd_T42 bt165.1 5).f2.f0) == 0 && (((rd_T42 bt165.1 5).f2.f1) == 0)) && (((rd_T42 bt165.1 5).f3) == 0 && (((rd_T42 bt165.1 5).f4) == 3))))) = true then ((collect_Collector_Lost.f k bt165.2).bind fun bt174 => (if bt174.1 = 3 then ((collect_Collector_From.f bt174.2).bind fun bt176 => (if bt176.1 = 11 then (some (bt169.2.2 == 8)) else (none))) else (none))) else (none)) else (none)) else (none)) else (none)) else (none)) else (none)) else (none)) else (none))))))))) = some r := H
 have A2 := Aside0.mk A20
 clear A20
 replace H := Option.bind_eq_some_iff.mp H
 obtain ⟨⟨t150, t151, t152⟩, A30, H⟩ := H
 replace H : ((plenumlaw42_plain.f k 2 5).bind fun t153 => ((collect_Collector_Take.f k t152 t153).bind fun bt156 => ((plenumlaw42_plain.f k 9 10).bind fun t159 => ((collect_Collector_Take.f k bt156.2.2 t159).bind fun bt162 => ((collect_Collector_Records.f bt162.2.2).bind fun bt165 => ((collect_At.f k bt165.1 60).bind fun bt169 => (if t151 = 0 then (if t150 = 3 then (if bt156.2.1 = 0 then (if bt156.1 = 2 then (if bt162.2.1 = 0 then (if (bt165.1.length : Int) = 8 then (if 5 < (bt165.1.length : Int) then (if (((rd_T42 bt165.1 5).f0) == 8 && (((rd_T42 bt165.1 5).f1) == 0 && ((((rd_T42 bt165.1 5).f2.f0) == 0 && (((rd_T42 bt165.1 5).f2.f1) == 0)) && (((rd_T42 bt165.1 5).f3) == 0 && (((rd_T42 bt165.1 5).f4) == 3))))) = true then ((collect_Collector_Lost.f k bt165.2).bind fun bt174 => (if bt174.1 = 3 then ((collect_Collector_From.f bt174.2).bind fun bt176 => (if bt176.1 = 11 then (some (bt169.2.2 == 8)) else (none))) else (none))) else (none)) else (none)) else (none)) else (none)) else (none)) else (none)) else (none)) else (none)))))))) = some r := H
 have A3 := Aside0.mk A30
 clear A30
 replace H := Option.bind_eq_some_iff.mp H
 obtain ⟨t153, A40, H⟩ := H
 replace H : ((collect_Collector_Take.f k t152 t153).bind fun bt156 => ((plenumlaw42_plain.f k 9 10).bind fun t159 => ((collect_Collector_Take.f k bt156.2.2 t159).bind fun bt162 => ((collect_Collector_Records.f bt162.2.2).bind fun bt165 => ((collect_At.f k bt165.1 60).bind fun bt169 => (if t151 = 0 then (if t150 = 3 then (if bt156.2.1 = 0 then (if bt156.1 = 2 then (if bt162.2.1 = 0 then (if (bt165.1.length : Int) = 8 then (if 5 < (bt165.1.length : Int) then (if (((rd_T42 bt165.1 5).f0) == 8 && (((rd_T42 bt165.1 5).f1) == 0 && ((((rd_T42 bt165.1 5).f2.f0) == 0 && (((rd_T42 bt165.1 5).f2.f1) == 0)) && (((rd_T42 bt165.1 5).f3) == 0 && (((rd_T42 bt165.1 5).f4) == 3))))) = true then ((collect_Collector_Lost.f k bt165.2).bind fun bt174 => (if bt174.1 = 3 then ((collect_Collector_From.f bt174.2).bind fun bt176 => (if bt176.1 = 11 then (some (bt169.2.2 == 8)) else (none))) else (none))) else (none)) else (none)) else (none)) else (none)) else (none)) else (none)) else (none)) else (none))))))) = some r := H
 have A4 := Aside0.mk A40
 clear A40
 replace H := Option.bind_eq_some_iff.mp H
 obtain ⟨⟨t156, t157, t158⟩, A50, H⟩ := H
 replace H : ((plenumlaw42_plain.f k 9 10).bind fun t159 => ((collect_Collector_Take.f k t158 t159).bind fun bt162 => ((collect_Collector_Records.f bt162.2.2).bind fun bt165 => ((collect_At.f k bt165.1 60).bind fun bt169 => (if t151 = 0 then (if t150 = 3 then (if t157 = 0 then (if t156 = 2 then (if bt162.2.1 = 0 then (if (bt165.1.length : Int) = 8 then (if 5 < (bt165.1.length : Int) then (if (((rd_T42 bt165.1 5).f0) == 8 && (((rd_T42 bt165.1 5).f1) == 0 && ((((rd_T42 bt165.1 5).f2.f0) == 0 && (((rd_T42 bt165.1 5).f2.f1) == 0)) && (((rd_T42 bt165.1 5).f3) == 0 && (((rd_T42 bt165.1 5).f4) == 3))))) = true then ((collect_Collector_Lost.f k bt165.2).bind fun bt174 => (if bt174.1 = 3 then ((collect_Collector_From.f bt174.2).bind fun bt176 => (if bt176.1 = 11 then (some (bt169.2.2 == 8)) else (none))) else (none))) else (none)) else (none)) else (none)) else (none)) else (none)) else (none)) else (none)) else (none)))))) = some r := H
 have A5 := Aside0.mk A50
 clear A50
 replace H := Option.bind_eq_some_iff.mp H
 obtain ⟨t159, A60, H⟩ := H
 replace H : ((collect_Collector_Take.f k t158 t159).bind fun bt162 => ((collect_Collector_Records.f bt162.2.2).bind fun bt165 => ((collect_At.f k bt165.1 60).bind fun bt169 => (if t151 = 0 then (if t150 = 3 then (if t157 = 0 then (if t156 = 2 then (if bt162.2.1 = 0 then (if (bt165.1.length : Int) = 8 then (if 5 < (bt165.1.length : Int) then (if (((rd_T42 bt165.1 5).f0) == 8 && (((rd_T42 bt165.1 5).f1) == 0 && ((((rd_T42 bt165.1 5).f2.f0) == 0 && (((rd_T42 bt165.1 5).f2.f1) == 0)) && (((rd_T42 bt165.1 5).f3) == 0 && (((rd_T42 bt165.1 5).f4) == 3))))) = true then ((collect_Collector_Lost.f k bt165.2).bind fun bt174 => (if bt174.1 = 3 then ((collect_Collector_From.f bt174.2).bind fun bt176 => (if bt176.1 = 11 then (some (bt169.2.2 == 8)) else (none))) else (none))) else (none)) else (none)) else (none)) else (none)) else (none)) else (none)) else (none)) else (none))))) = some r := H
 have A6 := Aside0.mk A60
 clear A60
 replace H := Option.bind_eq_some_iff.mp H
 obtain ⟨⟨t162, t163, t164⟩, A70, H⟩ := H
 replace H : ((collect_Collector_Records.f t164).bind fun bt165 => ((collect_At.f k bt165.1 60).bind fun bt169 => (if t151 = 0 then (if t150 = 3 then (if t157 = 0 then (if t156 = 2 then (if t163 = 0 then (if (bt165.1.length : Int) = 8 then (if 5 < (bt165.1.length : Int) then (if (((rd_T42 bt165.1 5).f0) == 8 && (((rd_T42 bt165.1 5).f1) == 0 && ((((rd_T42 bt165.1 5).f2.f0) == 0 && (((rd_T42 bt165.1 5).f2.f1) == 0)) && (((rd_T42 bt165.1 5).f3) == 0 && (((rd_T42 bt165.1 5).f4) == 3))))) = true then ((collect_Collector_Lost.f k bt165.2).bind fun bt174 => (if bt174.1 = 3 then ((collect_Collector_From.f bt174.2).bind fun bt176 => (if bt176.1 = 11 then (some (bt169.2.2 == 8)) else (none))) else (none))) else (none)) else (none)) else (none)) else (none)) else (none)) else (none)) else (none)) else (none)))) = some r := H
 have A7 := Aside0.mk A70
 clear A70
 replace H := Option.bind_eq_some_iff.mp H
 obtain ⟨⟨t165, t168⟩, A80, H⟩ := H
 replace H : ((collect_At.f k t165 60).bind fun bt169 => (if t151 = 0 then (if t150 = 3 then (if t157 = 0 then (if t156 = 2 then (if t163 = 0 then (if (t165.length : Int) = 8 then (if 5 < (t165.length : Int) then (if (((rd_T42 t165 5).f0) == 8 && (((rd_T42 t165 5).f1) == 0 && ((((rd_T42 t165 5).f2.f0) == 0 && (((rd_T42 t165 5).f2.f1) == 0)) && (((rd_T42 t165 5).f3) == 0 && (((rd_T42 t165 5).f4) == 3))))) = true then ((collect_Collector_Lost.f k t168).bind fun bt174 => (if bt174.1 = 3 then ((collect_Collector_From.f bt174.2).bind fun bt176 => (if bt176.1 = 11 then (some (bt169.2.2 == 8)) else (none))) else (none))) else (none)) else (none)) else (none)) else (none)) else (none)) else (none)) else (none)) else (none))) = some r := H
 have A8 := Aside0.mk A80
 clear A80
 replace H := Option.bind_eq_some_iff.mp H
 obtain ⟨⟨t169, t170, t171⟩, A90, H⟩ := H
 replace H : (if t151 = 0 then (if t150 = 3 then (if t157 = 0 then (if t156 = 2 then (if t163 = 0 then (if (t165.length : Int) = 8 then (if 5 < (t165.length : Int) then (if (((rd_T42 t165 5).f0) == 8 && (((rd_T42 t165 5).f1) == 0 && ((((rd_T42 t165 5).f2.f0) == 0 && (((rd_T42 t165 5).f2.f1) == 0)) && (((rd_T42 t165 5).f3) == 0 && (((rd_T42 t165 5).f4) == 3))))) = true then ((collect_Collector_Lost.f k t168).bind fun bt174 => (if bt174.1 = 3 then ((collect_Collector_From.f bt174.2).bind fun bt176 => (if bt176.1 = 11 then (some (t171 == 8)) else (none))) else (none))) else (none)) else (none)) else (none)) else (none)) else (none)) else (none)) else (none)) else (none)) = some r := H
 have A9 := Aside0.mk A90
 clear A90
 by_cases c10 : t151 = 0
 ·rw [if_pos c10] at H
  have c10b0 : (t151 == 0) = true := beq_iff_eq.mpr c10
  have c10b1 : (t151 != 0) = false := bne_eq_false_iff_eq.mpr c10
  clear c10
  by_cases c11 : t150 = 3
  ·rw [if_pos c11] at H
   have c11b0 : (t150 == 3) = true := beq_iff_eq.mpr c11
   have c11b1 : (t150 != 3) = false := bne_eq_false_iff_eq.mpr c11
   clear c11
   by_cases c12 : t157 = 0
   ·rw [if_pos c12] at H
    have c12b0 : (t157 == 0) = true := beq_iff_eq.mpr c12
    have c12b1 : (t157 != 0) = false := bne_eq_false_iff_eq.mpr c12
    clear c12
    by_cases c13 : t156 = 2
    ·rw [if_pos c13] at H
     have c13b0 : (t156 == 2) = true := beq_iff_eq.mpr c13
     have c13b1 : (t156 != 2) = false := bne_eq_false_iff_eq.mpr c13
     clear c13
     by_cases c14 : t163 = 0
     ·rw [if_pos c14] at H
      have c14b0 : (t163 == 0) = true := beq_iff_eq.mpr c14
      have c14b1 : (t163 != 0) = false := bne_eq_false_iff_eq.mpr c14
      clear c14
      by_cases c15 : (t165.length : Int) = 8
      ·rw [if_pos c15] at H
       have c15b0 : ((t165.length : Int) == 8) = true := beq_iff_eq.mpr c15
       have c15b1 : ((t165.length : Int) != 8) = false := bne_eq_false_iff_eq.mpr c15
       clear c15
       by_cases c16 : 5 < (t165.length : Int)
       ·rw [if_pos c16] at H
        have c16b0 : decide (5 < (t165.length : Int)) = true := decide_eq_true c16
        have c16b1 : decide (5 < t165.length) = true := decide_eq_true (by omega)
        clear c16
        by_cases c17 : (((rd_T42 t165 5).f0) == 8 && (((rd_T42 t165 5).f1) == 0 && ((((rd_T42 t165 5).f2.f0) == 0 && (((rd_T42 t165 5).f2.f1) == 0)) && (((rd_T42 t165 5).f3) == 0 && (((rd_T42 t165 5).f4) == 3))))) = true
        ·rw [if_pos c17] at H
         have c17b0 : (((rd_T42 t165 5).f0) == 8 && (((rd_T42 t165 5).f1) == 0 && ((((rd_T42 t165 5).f2.f0) == 0 && (((rd_T42 t165 5).f2.f1) == 0)) && (((rd_T42 t165 5).f3) == 0 && (((rd_T42 t165 5).f4) == 3))))) = true := c17
         (try (have c17b1 : decide (((rd_T42 t165 5).f0) = 8 && (((rd_T42 t165 5).f1) == 0 && ((((rd_T42 t165 5).f2.f0) == 0 && (((rd_T42 t165 5).f2.f1) == 0)) && (((rd_T42 t165 5).f3) == 0 && (((rd_T42 t165 5).f4) == 3))))) = true := by simpa using c17))
         (try (have c17b2 : (((rd_T42 t165 5).f0) == 8 && (((rd_T42 t165 5).f1) == 0 && ((((rd_T42 t165 5).f2.f0) == 0 && (((rd_T42 t165 5).f2.f1) == 0)) && (((rd_T42 t165 5).f3) == 0 && (((rd_T42 t165 5).f4) == 3))))) = true := by simpa using c17))
         clear c17
         replace H := Option.bind_eq_some_iff.mp H
         obtain ⟨⟨t174, t175⟩, A180, H⟩ := H
         replace H : (if t174 = 3 then ((collect_Collector_From.f t175).bind fun bt176 => (if bt176.1 = 11 then (some (t171 == 8)) else (none))) else (none)) = some r := H
         have A18 := Aside0.mk A180
         clear A180
         by_cases c19 : t174 = 3
         ·rw [if_pos c19] at H
          have c19b0 : (t174 == 3) = true := beq_iff_eq.mpr c19
          have c19b1 : (t174 != 3) = false := bne_eq_false_iff_eq.mpr c19
          clear c19
          replace H := Option.bind_eq_some_iff.mp H
          obtain ⟨⟨t176, t177⟩, A200, H⟩ := H
          replace H : (if t176 = 11 then (some (t171 == 8)) else (none)) = some r := H
          have A20 := Aside0.mk A200
          clear A200
          by_cases c21 : t176 = 11
          ·rw [if_pos c21] at H
           have c21b0 : (t176 == 11) = true := beq_iff_eq.mpr c21
           have c21b1 : (t176 != 11) = false := bne_eq_false_iff_eq.mpr c21
           clear c21
           obtain rfl := Option.some.inj H
           go_enter Try.func10, Try.ntmps10
           go_wp2_with (first | ((with_reducible refine gate_dst (N := 9) rfl ?_); refine box_event ?hg (N := 9) ?hd (cs := #[.int .i64 0, .int .i64 0]) (t := 40) ?hr ?_; (case hd => rfl); (case hg => rfl); (case hr => first | (go_simp; done) | (go_simp; rfl)); intro gb172 hg w35 hbox hb; have n0_ := Aside0.mk (Kd.R_below (by (with_reducible repeat (first | apply Kd.R_alloc | apply Kd.R_drewN | apply Kd.R_drew)); exact HO149.out) hb); have n1_ := Aside0.mk (Kd.R_below (by (with_reducible repeat (first | apply Kd.R_alloc | apply Kd.R_drewN | apply Kd.R_drew)); exact HO155.out) hb); have n2_ := Aside0.mk (Kd.R_below (by (with_reducible repeat (first | apply Kd.R_alloc | apply Kd.R_drewN | apply Kd.R_drew)); exact HO161.out) hb); have n3_ := Aside0.mk (Kd.R_below (by (with_reducible repeat (first | apply Kd.R_alloc | apply Kd.R_drewN | apply Kd.R_drew)); exact HO167.out) hb); have n4_ := Aside0.mk (IsS58.below (by repeat (first | (with_reducible first | exact HI146.out | apply IsS58.alloc | apply IsS58.drewN | apply IsS58.drew | apply IsS58.set_0) | exact HI146.out)) hb); have n5_ := Aside0.mk (below_step (by repeat (first | (with_reducible first | exact HB.out | apply below_alloc | apply pw_below_drewN | apply below_drew1 | refine below_set ?_ (IsS58.ge HI146.out)) | exact HB.out)) hb); have n6_ := Aside0.mk (hbox); have n7_ := Aside0.mk ((by rw [hg]; exact (below_size (by repeat (first | (with_reducible first | exact HB.out | apply below_alloc | apply pw_below_drewN | apply below_drew1 | refine below_set ?_ (IsS58.ge HI146.out)) | exact HB.out))) : w.heap.size ≤ gb172)); have n8_ := Aside0.mk ((by rw [hg]; exact (below_size (by repeat (first | (with_reducible first | exact HB.out | apply below_alloc | apply pw_below_drewN | apply below_drew1 | refine below_set ?_ (IsS58.ge HI146.out)) | exact HB.out))) : w.heap.size ≤ gb172)); have n9_ := Aside0.mk ((by rw [hg]; exact Nat.ne_of_lt (IsS58.lt (show IsS58 w _ g146 t168 from by repeat (first | (with_reducible first | exact HI146.out | apply IsS58.alloc | apply IsS58.drewN | apply IsS58.drew | apply IsS58.set_0) | exact HI146.out))) : g146 ≠ gb172)); have n10_ := Aside0.mk ((by rw [hg]; exact Nat.ne_of_gt (IsS58.lt (show IsS58 w _ g146 t168 from by repeat (first | (with_reducible first | exact HI146.out | apply IsS58.alloc | apply IsS58.drewN | apply IsS58.drew | apply IsS58.set_0) | exact HI146.out))) : gb172 ≠ g146)); clear HO149; clear HO155; clear HO161; clear HO167; clear HI146; clear HB; have HO149 := n0_; have HO155 := n1_; have HO161 := n2_; have HO167 := n3_; have HI146 := n4_; have HB := n5_; have BK172 := n6_; have GW172 := n7_; have GE172 := n8_; have NB146_172 := n9_; have NB172_146 := n10_; clear n0_ n1_ n2_ n3_ n4_ n5_ n6_ n7_ n8_ n9_ n10_; clear hb hbox hg; have hnb36 := NB172_146.out; have hnc36 := NB146_172.out; have hcz37_0 : w35.cell? ⟨gb172, 0, none⟩ = some (.int .i64 0) := (blk_cell BK172.out 0).trans rfl; have hcz37_1 : w35.cell? ⟨gb172, 1, none⟩ = some (.int .i64 0) := (blk_cell BK172.out 1).trans rfl; have hfz37_0 := blk_frozen BK172.out 0; have hfz37_1 := blk_frozen BK172.out 1; have p173 : 0 ≤ (5 : Int) := (by omega); have q173 : 5 < (t165.length : Int) := of_decide_eq_true (by first | (with_reducible assumption) | assumption); obtain ⟨ad173, e173, hx173_0, hx173_1, hx173_2, hx173_3, hx173_4, hx173_5⟩ := at_T42 (Kd.R_reads' HO167.out).2.2 5 p173 q173; cases e173; (try simp only [show (5 : Int).toNat = 5 from rfl, Nat.reduceMul, Nat.reduceEqDiff, Go.Addr.add, ↓reduceIte] at hx173_0); (try simp only [show (5 : Int).toNat = 5 from rfl, Nat.reduceMul, Nat.reduceEqDiff, Go.Addr.add, ↓reduceIte] at hx173_1); (try simp only [show (5 : Int).toNat = 5 from rfl, Nat.reduceMul, Nat.reduceEqDiff, Go.Addr.add, ↓reduceIte] at hx173_2); (try simp only [show (5 : Int).toNat = 5 from rfl, Nat.reduceMul, Nat.reduceEqDiff, Go.Addr.add, ↓reduceIte] at hx173_3); (try simp only [show (5 : Int).toNat = 5 from rfl, Nat.reduceMul, Nat.reduceEqDiff, Go.Addr.add, ↓reduceIte] at hx173_4); (try simp only [show (5 : Int).toNat = 5 from rfl, Nat.reduceMul, Nat.reduceEqDiff, Go.Addr.add, ↓reduceIte] at hx173_5); have qi173 : (5 < t165.length) = True := eq_true (by omega); (try rw [show ((5 : Int)).toNat = 5 from rfl] at hx173_0); (try rw [show 5 * 6 = 30 from rfl] at hx173_0); (try rw [show ((5 : Int)).toNat = 5 from rfl] at hx173_1); (try rw [show 5 * 6 = 30 from rfl] at hx173_1); (try rw [show ((5 : Int)).toNat = 5 from rfl] at hx173_2); (try rw [show 5 * 6 = 30 from rfl] at hx173_2); (try rw [show ((5 : Int)).toNat = 5 from rfl] at hx173_3); (try rw [show 5 * 6 = 30 from rfl] at hx173_3); (try rw [show ((5 : Int)).toNat = 5 from rfl] at hx173_4); (try rw [show 5 * 6 = 30 from rfl] at hx173_4); (try rw [show ((5 : Int)).toNat = 5 from rfl] at hx173_5); (try rw [show 5 * 6 = 30 from rfl] at hx173_5); have hn173_0 : ad173.block ≠ gb172 := Kd.own_blk (Kd.R_ne HO167.out BK172.out (by decide)); have hn173_1 : ad173.block ≠ gb172 := Kd.own_blk (Kd.R_ne HO167.out BK172.out (by decide)); replace hx173_0 := (cell_far (p := ⟨gb172, 0, none⟩) (by first | (rw [add_block]; exact hn173_0) | (show (Addr.add _ _).block ≠ _; rw [add_block]; exact hn173_0) | exact hn173_0) (.int .i64 t169)).trans hx173_0; replace hx173_1 := (cell_far (p := ⟨gb172, 0, none⟩) (by first | (rw [add_block]; exact hn173_0) | (show (Addr.add _ _).block ≠ _; rw [add_block]; exact hn173_0) | exact hn173_0) (.int .i64 t169)).trans hx173_1; replace hx173_2 := (cell_far (p := ⟨gb172, 0, none⟩) (by first | (rw [add_block]; exact hn173_0) | (show (Addr.add _ _).block ≠ _; rw [add_block]; exact hn173_0) | exact hn173_0) (.int .i64 t169)).trans hx173_2; replace hx173_3 := (cell_far (p := ⟨gb172, 0, none⟩) (by first | (rw [add_block]; exact hn173_0) | (show (Addr.add _ _).block ≠ _; rw [add_block]; exact hn173_0) | exact hn173_0) (.int .i64 t169)).trans hx173_3; replace hx173_4 := (cell_far (p := ⟨gb172, 0, none⟩) (by first | (rw [add_block]; exact hn173_0) | (show (Addr.add _ _).block ≠ _; rw [add_block]; exact hn173_0) | exact hn173_0) (.int .i64 t169)).trans hx173_4; replace hx173_5 := (cell_far (p := ⟨gb172, 0, none⟩) (by first | (rw [add_block]; exact hn173_0) | (show (Addr.add _ _).block ≠ _; rw [add_block]; exact hn173_0) | exact hn173_0) (.int .i64 t169)).trans hx173_5; replace hx173_0 := (cell_far (p := ⟨gb172, 1, none⟩) (by first | (rw [add_block]; exact hn173_1) | (show (Addr.add _ _).block ≠ _; rw [add_block]; exact hn173_1) | exact hn173_1) (.int .i64 t170)).trans hx173_0; replace hx173_1 := (cell_far (p := ⟨gb172, 1, none⟩) (by first | (rw [add_block]; exact hn173_1) | (show (Addr.add _ _).block ≠ _; rw [add_block]; exact hn173_1) | exact hn173_1) (.int .i64 t170)).trans hx173_1; replace hx173_2 := (cell_far (p := ⟨gb172, 1, none⟩) (by first | (rw [add_block]; exact hn173_1) | (show (Addr.add _ _).block ≠ _; rw [add_block]; exact hn173_1) | exact hn173_1) (.int .i64 t170)).trans hx173_2; replace hx173_3 := (cell_far (p := ⟨gb172, 1, none⟩) (by first | (rw [add_block]; exact hn173_1) | (show (Addr.add _ _).block ≠ _; rw [add_block]; exact hn173_1) | exact hn173_1) (.int .i64 t170)).trans hx173_3; replace hx173_4 := (cell_far (p := ⟨gb172, 1, none⟩) (by first | (rw [add_block]; exact hn173_1) | (show (Addr.add _ _).block ≠ _; rw [add_block]; exact hn173_1) | exact hn173_1) (.int .i64 t170)).trans hx173_4; replace hx173_5 := (cell_far (p := ⟨gb172, 1, none⟩) (by first | (rw [add_block]; exact hn173_1) | (show (Addr.add _ _).block ≠ _; rw [add_block]; exact hn173_1) | exact hn173_1) (.int .i64 t170)).trans hx173_5; clear hn173_0; clear hn173_1; replace p173 := eq_true p173; replace q173 := eq_true q173) | (go_at_call 17; (with_reducible refine (collect_Collector_Lost.calls k g146 t168 t174 t175 w _ ?side1 ?side2 A18.out).mono ?_); (case side1 => repeat (first | (with_reducible first | exact HI146.out | apply IsS58.alloc | apply IsS58.drewN | apply IsS58.drew | apply IsS58.set_0 | exact IsS58.far2 HI146.out BK172.out (by decide) _ _ _ _) | exact HI146.out)); (case side2 => repeat (first | (with_reducible first | exact HB.out | apply below_alloc | apply pw_below_drewN | apply below_drew1 | refine below_set ?_ (IsS58.ge HI146.out) | refine below_set ?_ GE172.out) | exact HB.out)); rintro e w38 ⟨rfl, hi, hb, hk⟩; have n0_ := Aside0.mk (Kd.R_mono (Kd.R_keep (IsS58.apart (show IsS58 w _ g146 t168 from by repeat (first | (with_reducible first | exact HI146.out | apply IsS58.alloc | apply IsS58.drewN | apply IsS58.drew | apply IsS58.set_0 | exact IsS58.far2 HI146.out BK172.out (by decide) _ _ _ _) | exact HI146.out)) (by (with_reducible repeat (first | apply Kd.R_alloc | apply Kd.R_drewN | apply Kd.R_drew)); exact (Kd.R_mono (Kd.R_far (p := ⟨gb172, 1, none⟩) (Kd.R_far (p := ⟨gb172, 0, none⟩) (Kd.R_types HO149.out BK172.out (by decide)) (fun _ hk => hk.2) (.int .i64 t169)) (fun _ hk => hk.2) (.int .i64 t170)) (fun _ h_ => h_.1))) (by decide)) hk (fun _ h => h.2)) (fun _ h => h.1)); have n1_ := Aside0.mk (Kd.R_mono (Kd.R_keep (IsS58.apart (show IsS58 w _ g146 t168 from by repeat (first | (with_reducible first | exact HI146.out | apply IsS58.alloc | apply IsS58.drewN | apply IsS58.drew | apply IsS58.set_0 | exact IsS58.far2 HI146.out BK172.out (by decide) _ _ _ _) | exact HI146.out)) (by (with_reducible repeat (first | apply Kd.R_alloc | apply Kd.R_drewN | apply Kd.R_drew)); exact (Kd.R_mono (Kd.R_far (p := ⟨gb172, 1, none⟩) (Kd.R_far (p := ⟨gb172, 0, none⟩) (Kd.R_types HO155.out BK172.out (by decide)) (fun _ hk => hk.2) (.int .i64 t169)) (fun _ hk => hk.2) (.int .i64 t170)) (fun _ h_ => h_.1))) (by decide)) hk (fun _ h => h.2)) (fun _ h => h.1)); have n2_ := Aside0.mk (Kd.R_mono (Kd.R_keep (IsS58.apart (show IsS58 w _ g146 t168 from by repeat (first | (with_reducible first | exact HI146.out | apply IsS58.alloc | apply IsS58.drewN | apply IsS58.drew | apply IsS58.set_0 | exact IsS58.far2 HI146.out BK172.out (by decide) _ _ _ _) | exact HI146.out)) (by (with_reducible repeat (first | apply Kd.R_alloc | apply Kd.R_drewN | apply Kd.R_drew)); exact (Kd.R_mono (Kd.R_far (p := ⟨gb172, 1, none⟩) (Kd.R_far (p := ⟨gb172, 0, none⟩) (Kd.R_types HO161.out BK172.out (by decide)) (fun _ hk => hk.2) (.int .i64 t169)) (fun _ hk => hk.2) (.int .i64 t170)) (fun _ h_ => h_.1))) (by decide)) hk (fun _ h => h.2)) (fun _ h => h.1)); have n3_ := Aside0.mk (Kd.R_mono (Kd.R_keep (IsS58.apart (show IsS58 w _ g146 t168 from by repeat (first | (with_reducible first | exact HI146.out | apply IsS58.alloc | apply IsS58.drewN | apply IsS58.drew | apply IsS58.set_0 | exact IsS58.far2 HI146.out BK172.out (by decide) _ _ _ _) | exact HI146.out)) (by (with_reducible repeat (first | apply Kd.R_alloc | apply Kd.R_drewN | apply Kd.R_drew)); exact (Kd.R_mono (Kd.R_far (p := ⟨gb172, 1, none⟩) (Kd.R_far (p := ⟨gb172, 0, none⟩) (Kd.R_types HO167.out BK172.out (by decide)) (fun _ hk => hk.2) (.int .i64 t169)) (fun _ hk => hk.2) (.int .i64 t170)) (fun _ h_ => h_.1))) (by decide)) hk (fun _ h => h.2)) (fun _ h => h.1)); have n4_ := Aside0.mk (KeepBut.blk hk (g' := gb172) (o := .cells #[.int .i64 t169, .int .i64 t170] 40 (0, 0)) (by (with_reducible repeat (first | refine blk_drewN ?_ _ | refine blk_drew ?_ | refine blk_alloc ?_ _)); refine blk_put (cs := #[.int .i64 t169, .int .i64 0]) ?_ 1 _ rfl; (with_reducible repeat (first | refine blk_drewN ?_ _ | refine blk_drew ?_ | refine blk_alloc ?_ _)); refine blk_put (cs := #[.int .i64 0, .int .i64 0]) ?_ 0 _ rfl; (with_reducible repeat (first | refine blk_drewN ?_ _ | refine blk_drew ?_ | refine blk_alloc ?_ _)); exact BK172.out) NB172_146.out (by simp)); have n5_ := Aside0.mk (hb); have n6_ := Aside0.mk (hi); clear HO149; clear HO155; clear HO161; clear HO167; clear BK172; clear HB; clear HI146; have HO149 := n0_; have HO155 := n1_; have HO161 := n2_; have HO167 := n3_; have BK172 := n4_; have HB := n5_; have HI146 := n6_; clear n0_ n1_ n2_ n3_ n4_ n5_ n6_; (try clear hb); (try clear hb2); (try clear hk); (try clear hi)) | (go_at_call 15; (with_reducible refine (collect_Collector_From.calls g146 t175 t176 t177 w _ ?side1 ?side2 A20.out).mono ?_); (case side1 => repeat (first | (with_reducible first | exact HI146.out | apply IsS58.alloc | apply IsS58.drewN | apply IsS58.drew | apply IsS58.set_0 | exact IsS58.far2 HI146.out BK172.out (by decide) _ _ _ _) | exact HI146.out)); (case side2 => repeat (first | (with_reducible first | exact HB.out | apply below_alloc | apply pw_below_drewN | apply below_drew1 | refine below_set ?_ (IsS58.ge HI146.out) | refine below_set ?_ GE172.out) | exact HB.out)); rintro e w39 ⟨rfl, hi, hb, hk⟩; have n0_ := Aside0.mk (Kd.R_mono (Kd.R_keep (IsS58.apart (show IsS58 w _ g146 t175 from by repeat (first | (with_reducible first | exact HI146.out | apply IsS58.alloc | apply IsS58.drewN | apply IsS58.drew | apply IsS58.set_0 | exact IsS58.far2 HI146.out BK172.out (by decide) _ _ _ _) | exact HI146.out)) (by (with_reducible repeat (first | apply Kd.R_alloc | apply Kd.R_drewN | apply Kd.R_drew)); exact HO149.out) (by decide)) hk (fun _ h => h.2)) (fun _ h => h.1)); have n1_ := Aside0.mk (Kd.R_mono (Kd.R_keep (IsS58.apart (show IsS58 w _ g146 t175 from by repeat (first | (with_reducible first | exact HI146.out | apply IsS58.alloc | apply IsS58.drewN | apply IsS58.drew | apply IsS58.set_0 | exact IsS58.far2 HI146.out BK172.out (by decide) _ _ _ _) | exact HI146.out)) (by (with_reducible repeat (first | apply Kd.R_alloc | apply Kd.R_drewN | apply Kd.R_drew)); exact HO155.out) (by decide)) hk (fun _ h => h.2)) (fun _ h => h.1)); have n2_ := Aside0.mk (Kd.R_mono (Kd.R_keep (IsS58.apart (show IsS58 w _ g146 t175 from by repeat (first | (with_reducible first | exact HI146.out | apply IsS58.alloc | apply IsS58.drewN | apply IsS58.drew | apply IsS58.set_0 | exact IsS58.far2 HI146.out BK172.out (by decide) _ _ _ _) | exact HI146.out)) (by (with_reducible repeat (first | apply Kd.R_alloc | apply Kd.R_drewN | apply Kd.R_drew)); exact HO161.out) (by decide)) hk (fun _ h => h.2)) (fun _ h => h.1)); have n3_ := Aside0.mk (Kd.R_mono (Kd.R_keep (IsS58.apart (show IsS58 w _ g146 t175 from by repeat (first | (with_reducible first | exact HI146.out | apply IsS58.alloc | apply IsS58.drewN | apply IsS58.drew | apply IsS58.set_0 | exact IsS58.far2 HI146.out BK172.out (by decide) _ _ _ _) | exact HI146.out)) (by (with_reducible repeat (first | apply Kd.R_alloc | apply Kd.R_drewN | apply Kd.R_drew)); exact HO167.out) (by decide)) hk (fun _ h => h.2)) (fun _ h => h.1)); have n4_ := Aside0.mk (KeepBut.blk hk (g' := gb172) (o := .cells #[.int .i64 t169, .int .i64 t170] 40 (0, 0)) (by (with_reducible repeat (first | refine blk_drewN ?_ _ | refine blk_drew ?_ | refine blk_alloc ?_ _)); exact BK172.out) NB172_146.out (by simp)); have n5_ := Aside0.mk (hb); have n6_ := Aside0.mk (hi); clear HO149; clear HO155; clear HO161; clear HO167; clear BK172; clear HB; clear HI146; have HO149 := n0_; have HO155 := n1_; have HO161 := n2_; have HO167 := n3_; have BK172 := n4_; have HB := n5_; have HI146 := n6_; clear n0_ n1_ n2_ n3_ n4_ n5_ n6_; (try clear hb); (try clear hb2); (try clear hk); (try clear hi)) | (go_at_call 12; (with_reducible refine (collect_New.calls  t145 w _ ?side1 A1.out).mono ?_); (case side1 => repeat (first | (with_reducible first | exact HB.out | apply below_alloc | apply pw_below_drewN | apply below_drew1) | exact HB.out)); rintro e w22 ⟨g146, rfl, hi, hb, hb2⟩; have n0_ := Aside0.mk (hb); have n1_ := Aside0.mk (hi); clear HB; have HB := n0_; have HI146 := n1_; clear n0_ n1_; (try clear hb); (try clear hb2); (try clear hk); (try clear hi)) | (go_at_call 23; (with_reducible refine (plenumlaw42_plain.calls k 1 3 t147 _ A2.out).mono ?_); rintro e w23 ⟨v148, rfl, ho0, hb⟩; have n0_ := Aside0.mk (Kd.R_lower ho0 (below_size (by repeat (first | (with_reducible first | exact HB.out | apply below_alloc | apply pw_below_drewN | apply below_drew1 | refine below_set ?_ (IsS58.ge HI146.out)) | exact HB.out)))); have n1_ := Aside0.mk (IsS58.below (by repeat (first | (with_reducible first | exact HI146.out | apply IsS58.alloc | apply IsS58.drewN | apply IsS58.drew | apply IsS58.set_0) | exact HI146.out)) hb); have n2_ := Aside0.mk (below_step (by repeat (first | (with_reducible first | exact HB.out | apply below_alloc | apply pw_below_drewN | apply below_drew1 | refine below_set ?_ (IsS58.ge HI146.out)) | exact HB.out)) hb); clear HI146; clear HB; have HO149 := n0_; have HI146 := n1_; have HB := n2_; clear n0_ n1_ n2_; (try clear hb); (try clear hb2); (try clear hk); (try clear hi); (try clear ho0); obtain ⟨Ao24, co24, eo24⟩ := Kd.R_slice HO149.out; subst eo24) | (go_at_call 13; (with_reducible refine (collect_Collector_Take.calls k g146 t145 _ _ t147 t150 t151 t152 w _ ?side1 ?side2 ?side3 ?side4 A3.out).mono ?_); (case side1 => repeat (first | (with_reducible first | exact HI146.out | apply IsS58.alloc | apply IsS58.drewN | apply IsS58.drew | apply IsS58.set_0) | exact HI146.out)); (case side2 => repeat (first | (with_reducible first | exact HB.out | apply below_alloc | apply pw_below_drewN | apply below_drew1 | refine below_set ?_ (IsS58.ge HI146.out)) | exact HB.out)); (case side3 => exact Kd.C_foot_own (IsS58.apart (show IsS58 w _ g146 t145 from by repeat (first | (with_reducible first | exact HI146.out | apply IsS58.alloc | apply IsS58.drewN | apply IsS58.drew | apply IsS58.set_0) | exact HI146.out)) (by (with_reducible repeat (first | apply Kd.R_alloc | apply Kd.R_drewN | apply Kd.R_drew)); exact HO149.out) (by decide)) (fun _ h_ => h_.2)); (case side4 => exact (Kd.R_reads' HO149.out).2.1); rintro e w25 ⟨rfl, hi, hb, hk⟩; have n0_ := Aside0.mk (Kd.R_mono (Kd.R_keep (IsS58.apart (show IsS58 w _ g146 t145 from by repeat (first | (with_reducible first | exact HI146.out | apply IsS58.alloc | apply IsS58.drewN | apply IsS58.drew | apply IsS58.set_0) | exact HI146.out)) (by (with_reducible repeat (first | apply Kd.R_alloc | apply Kd.R_drewN | apply Kd.R_drew)); exact HO149.out) (by decide)) hk (fun _ h => h.2)) (fun _ h => h.1)); have n1_ := Aside0.mk (hb); have n2_ := Aside0.mk (hi); clear HO149; clear HB; clear HI146; have HO149 := n0_; have HB := n1_; have HI146 := n2_; clear n0_ n1_ n2_; (try clear hb); (try clear hb2); (try clear hk); (try clear hi)) | (go_at_call 23; (with_reducible refine (plenumlaw42_plain.calls k 2 5 t153 _ A4.out).mono ?_); rintro e w26 ⟨v154, rfl, ho0, hb⟩; have n0_ := Aside0.mk (Kd.R_elder' (by (with_reducible repeat (first | apply Kd.R_alloc | apply Kd.R_drewN | apply Kd.R_drew)); exact HO149.out) (Kd.R_base ho0) hb); have n1_ := Aside0.mk (Kd.R_lower (Kd.R_new' ho0 (Kd.R_lt (by (with_reducible repeat (first | apply Kd.R_alloc | apply Kd.R_drewN | apply Kd.R_drew)); exact HO149.out))) (below_size (by repeat (first | (with_reducible first | exact HB.out | apply below_alloc | apply pw_below_drewN | apply below_drew1 | refine below_set ?_ (IsS58.ge HI146.out)) | exact HB.out)))); have n2_ := Aside0.mk (IsS58.below (by repeat (first | (with_reducible first | exact HI146.out | apply IsS58.alloc | apply IsS58.drewN | apply IsS58.drew | apply IsS58.set_0) | exact HI146.out)) hb); have n3_ := Aside0.mk (below_step (by repeat (first | (with_reducible first | exact HB.out | apply below_alloc | apply pw_below_drewN | apply below_drew1 | refine below_set ?_ (IsS58.ge HI146.out)) | exact HB.out)) hb); clear HO149; clear HI146; clear HB; have HO149 := n0_; have HO155 := n1_; have HI146 := n2_; have HB := n3_; clear n0_ n1_ n2_ n3_; (try clear hb); (try clear hb2); (try clear hk); (try clear hi); (try clear ho0); obtain ⟨Ao27, co27, eo27⟩ := Kd.R_slice HO155.out; subst eo27) | (go_at_call 13; (with_reducible refine (collect_Collector_Take.calls k g146 t152 _ _ t153 t156 t157 t158 w _ ?side1 ?side2 ?side3 ?side4 A5.out).mono ?_); (case side1 => repeat (first | (with_reducible first | exact HI146.out | apply IsS58.alloc | apply IsS58.drewN | apply IsS58.drew | apply IsS58.set_0) | exact HI146.out)); (case side2 => repeat (first | (with_reducible first | exact HB.out | apply below_alloc | apply pw_below_drewN | apply below_drew1 | refine below_set ?_ (IsS58.ge HI146.out)) | exact HB.out)); (case side3 => exact Kd.C_foot_own (IsS58.apart (show IsS58 w _ g146 t152 from by repeat (first | (with_reducible first | exact HI146.out | apply IsS58.alloc | apply IsS58.drewN | apply IsS58.drew | apply IsS58.set_0) | exact HI146.out)) (by (with_reducible repeat (first | apply Kd.R_alloc | apply Kd.R_drewN | apply Kd.R_drew)); exact HO155.out) (by decide)) (fun _ h_ => h_.2)); (case side4 => exact (Kd.R_reads' HO155.out).2.1); rintro e w28 ⟨rfl, hi, hb, hk⟩; have n0_ := Aside0.mk (Kd.R_mono (Kd.R_keep (IsS58.apart (show IsS58 w _ g146 t152 from by repeat (first | (with_reducible first | exact HI146.out | apply IsS58.alloc | apply IsS58.drewN | apply IsS58.drew | apply IsS58.set_0) | exact HI146.out)) (by (with_reducible repeat (first | apply Kd.R_alloc | apply Kd.R_drewN | apply Kd.R_drew)); exact HO149.out) (by decide)) hk (fun _ h => h.2)) (fun _ h => h.1)); have n1_ := Aside0.mk (Kd.R_mono (Kd.R_keep (IsS58.apart (show IsS58 w _ g146 t152 from by repeat (first | (with_reducible first | exact HI146.out | apply IsS58.alloc | apply IsS58.drewN | apply IsS58.drew | apply IsS58.set_0) | exact HI146.out)) (by (with_reducible repeat (first | apply Kd.R_alloc | apply Kd.R_drewN | apply Kd.R_drew)); exact HO155.out) (by decide)) hk (fun _ h => h.2)) (fun _ h => h.1)); have n2_ := Aside0.mk (hb); have n3_ := Aside0.mk (hi); clear HO149; clear HO155; clear HB; clear HI146; have HO149 := n0_; have HO155 := n1_; have HB := n2_; have HI146 := n3_; clear n0_ n1_ n2_ n3_; (try clear hb); (try clear hb2); (try clear hk); (try clear hi)) | (go_at_call 23; (with_reducible refine (plenumlaw42_plain.calls k 9 10 t159 _ A6.out).mono ?_); rintro e w29 ⟨v160, rfl, ho0, hb⟩; have n0_ := Aside0.mk (Kd.R_elder' (by (with_reducible repeat (first | apply Kd.R_alloc | apply Kd.R_drewN | apply Kd.R_drew)); exact HO149.out) (Kd.R_base ho0) hb); have n1_ := Aside0.mk (Kd.R_elder' (by (with_reducible repeat (first | apply Kd.R_alloc | apply Kd.R_drewN | apply Kd.R_drew)); exact HO155.out) (Kd.R_base ho0) hb); have n2_ := Aside0.mk (Kd.R_lower (Kd.R_new' (Kd.R_new' ho0 (Kd.R_lt (by (with_reducible repeat (first | apply Kd.R_alloc | apply Kd.R_drewN | apply Kd.R_drew)); exact HO149.out))) (Kd.R_lt (by (with_reducible repeat (first | apply Kd.R_alloc | apply Kd.R_drewN | apply Kd.R_drew)); exact HO155.out))) (below_size (by repeat (first | (with_reducible first | exact HB.out | apply below_alloc | apply pw_below_drewN | apply below_drew1 | refine below_set ?_ (IsS58.ge HI146.out)) | exact HB.out)))); have n3_ := Aside0.mk (IsS58.below (by repeat (first | (with_reducible first | exact HI146.out | apply IsS58.alloc | apply IsS58.drewN | apply IsS58.drew | apply IsS58.set_0) | exact HI146.out)) hb); have n4_ := Aside0.mk (below_step (by repeat (first | (with_reducible first | exact HB.out | apply below_alloc | apply pw_below_drewN | apply below_drew1 | refine below_set ?_ (IsS58.ge HI146.out)) | exact HB.out)) hb); clear HO149; clear HO155; clear HI146; clear HB; have HO149 := n0_; have HO155 := n1_; have HO161 := n2_; have HI146 := n3_; have HB := n4_; clear n0_ n1_ n2_ n3_ n4_; (try clear hb); (try clear hb2); (try clear hk); (try clear hi); (try clear ho0); obtain ⟨Ao30, co30, eo30⟩ := Kd.R_slice HO161.out; subst eo30) | (go_at_call 13; (with_reducible refine (collect_Collector_Take.calls k g146 t158 _ _ t159 t162 t163 t164 w _ ?side1 ?side2 ?side3 ?side4 A7.out).mono ?_); (case side1 => repeat (first | (with_reducible first | exact HI146.out | apply IsS58.alloc | apply IsS58.drewN | apply IsS58.drew | apply IsS58.set_0) | exact HI146.out)); (case side2 => repeat (first | (with_reducible first | exact HB.out | apply below_alloc | apply pw_below_drewN | apply below_drew1 | refine below_set ?_ (IsS58.ge HI146.out)) | exact HB.out)); (case side3 => exact Kd.C_foot_own (IsS58.apart (show IsS58 w _ g146 t158 from by repeat (first | (with_reducible first | exact HI146.out | apply IsS58.alloc | apply IsS58.drewN | apply IsS58.drew | apply IsS58.set_0) | exact HI146.out)) (by (with_reducible repeat (first | apply Kd.R_alloc | apply Kd.R_drewN | apply Kd.R_drew)); exact HO161.out) (by decide)) (fun _ h_ => h_.2)); (case side4 => exact (Kd.R_reads' HO161.out).2.1); rintro e w31 ⟨rfl, hi, hb, hk⟩; have n0_ := Aside0.mk (Kd.R_mono (Kd.R_keep (IsS58.apart (show IsS58 w _ g146 t158 from by repeat (first | (with_reducible first | exact HI146.out | apply IsS58.alloc | apply IsS58.drewN | apply IsS58.drew | apply IsS58.set_0) | exact HI146.out)) (by (with_reducible repeat (first | apply Kd.R_alloc | apply Kd.R_drewN | apply Kd.R_drew)); exact HO149.out) (by decide)) hk (fun _ h => h.2)) (fun _ h => h.1)); have n1_ := Aside0.mk (Kd.R_mono (Kd.R_keep (IsS58.apart (show IsS58 w _ g146 t158 from by repeat (first | (with_reducible first | exact HI146.out | apply IsS58.alloc | apply IsS58.drewN | apply IsS58.drew | apply IsS58.set_0) | exact HI146.out)) (by (with_reducible repeat (first | apply Kd.R_alloc | apply Kd.R_drewN | apply Kd.R_drew)); exact HO155.out) (by decide)) hk (fun _ h => h.2)) (fun _ h => h.1)); have n2_ := Aside0.mk (Kd.R_mono (Kd.R_keep (IsS58.apart (show IsS58 w _ g146 t158 from by repeat (first | (with_reducible first | exact HI146.out | apply IsS58.alloc | apply IsS58.drewN | apply IsS58.drew | apply IsS58.set_0) | exact HI146.out)) (by (with_reducible repeat (first | apply Kd.R_alloc | apply Kd.R_drewN | apply Kd.R_drew)); exact HO161.out) (by decide)) hk (fun _ h => h.2)) (fun _ h => h.1)); have n3_ := Aside0.mk (hb); have n4_ := Aside0.mk (hi); clear HO149; clear HO155; clear HO161; clear HB; clear HI146; have HO149 := n0_; have HO155 := n1_; have HO161 := n2_; have HB := n3_; have HI146 := n4_; clear n0_ n1_ n2_ n3_ n4_; (try clear hb); (try clear hb2); (try clear hk); (try clear hi)) | (go_at_call 20; (with_reducible refine (collect_Collector_Records.calls g146 t164 t165 t168 w _ ?side1 ?side2 A8.out).mono ?_); (case side1 => repeat (first | (with_reducible first | exact HI146.out | apply IsS58.alloc | apply IsS58.drewN | apply IsS58.drew | apply IsS58.set_0) | exact HI146.out)); (case side2 => repeat (first | (with_reducible first | exact HB.out | apply below_alloc | apply pw_below_drewN | apply below_drew1 | refine below_set ?_ (IsS58.ge HI146.out)) | exact HB.out)); rintro e w32 ⟨v166, rfl, ho0, hi, hb, hk⟩; have n0_ := Aside0.mk (Kd.R_mono (Kd.R_told (Kd.R_oldK (IsS58.apart (show IsS58 w _ g146 t164 from by repeat (first | (with_reducible first | exact HI146.out | apply IsS58.alloc | apply IsS58.drewN | apply IsS58.drew | apply IsS58.set_0) | exact HI146.out)) (by (with_reducible repeat (first | apply Kd.R_alloc | apply Kd.R_drewN | apply Kd.R_drew)); exact HO149.out) (by decide)) hk) (Kd.R_base ho0)) (fun _ h_ => h_.1)); have n1_ := Aside0.mk (Kd.R_mono (Kd.R_told (Kd.R_oldK (IsS58.apart (show IsS58 w _ g146 t164 from by repeat (first | (with_reducible first | exact HI146.out | apply IsS58.alloc | apply IsS58.drewN | apply IsS58.drew | apply IsS58.set_0) | exact HI146.out)) (by (with_reducible repeat (first | apply Kd.R_alloc | apply Kd.R_drewN | apply Kd.R_drew)); exact HO155.out) (by decide)) hk) (Kd.R_base ho0)) (fun _ h_ => h_.1)); have n2_ := Aside0.mk (Kd.R_mono (Kd.R_told (Kd.R_oldK (IsS58.apart (show IsS58 w _ g146 t164 from by repeat (first | (with_reducible first | exact HI146.out | apply IsS58.alloc | apply IsS58.drewN | apply IsS58.drew | apply IsS58.set_0) | exact HI146.out)) (by (with_reducible repeat (first | apply Kd.R_alloc | apply Kd.R_drewN | apply Kd.R_drew)); exact HO161.out) (by decide)) hk) (Kd.R_base ho0)) (fun _ h_ => h_.1)); have n3_ := Aside0.mk (Kd.R_lower (Kd.R_new' (Kd.R_new' (Kd.R_new' ho0 (Kd.R_lt (by (with_reducible repeat (first | apply Kd.R_alloc | apply Kd.R_drewN | apply Kd.R_drew)); exact HO149.out))) (Kd.R_lt (by (with_reducible repeat (first | apply Kd.R_alloc | apply Kd.R_drewN | apply Kd.R_drew)); exact HO155.out))) (Kd.R_lt (by (with_reducible repeat (first | apply Kd.R_alloc | apply Kd.R_drewN | apply Kd.R_drew)); exact HO161.out))) (below_size (by repeat (first | (with_reducible first | exact HB.out | apply below_alloc | apply pw_below_drewN | apply below_drew1 | refine below_set ?_ (IsS58.ge HI146.out)) | exact HB.out)))); have n4_ := Aside0.mk (hb); have n5_ := Aside0.mk (hi); clear HO149; clear HO155; clear HO161; clear HB; clear HI146; have HO149 := n0_; have HO155 := n1_; have HO161 := n2_; have HO167 := n3_; have HB := n4_; have HI146 := n5_; clear n0_ n1_ n2_ n3_ n4_ n5_; (try clear hb); (try clear hb2); (try clear hk); (try clear hi); (try clear ho0); obtain ⟨Ao33, co33, eo33⟩ := Kd.R_slice HO167.out; subst eo33) | (go_at_call 27; (with_reducible refine (collect_At.calls k _ _ t165 60 t169 t170 t171 _ ?side1 ?side2 A9.out).mono ?_); (case side1 => repeat (first | exact (Kd.R_reads' HO167.out).2.2 | (with_reducible refine Kd.C_alloc ?_ _) | (with_reducible refine Kd.C_drewN ?_ _) | (with_reducible refine Kd.C_drew ?_))); (case side2 => exact (Kd.R_reads' HO167.out).2.1); rintro e w34 ⟨rfl, hb⟩; have n0_ := Aside0.mk (Kd.R_below (by (with_reducible repeat (first | apply Kd.R_alloc | apply Kd.R_drewN | apply Kd.R_drew)); exact HO149.out) hb); have n1_ := Aside0.mk (Kd.R_below (by (with_reducible repeat (first | apply Kd.R_alloc | apply Kd.R_drewN | apply Kd.R_drew)); exact HO155.out) hb); have n2_ := Aside0.mk (Kd.R_below (by (with_reducible repeat (first | apply Kd.R_alloc | apply Kd.R_drewN | apply Kd.R_drew)); exact HO161.out) hb); have n3_ := Aside0.mk (Kd.R_below (by (with_reducible repeat (first | apply Kd.R_alloc | apply Kd.R_drewN | apply Kd.R_drew)); exact HO167.out) hb); have n4_ := Aside0.mk (IsS58.below (by repeat (first | (with_reducible first | exact HI146.out | apply IsS58.alloc | apply IsS58.drewN | apply IsS58.drew | apply IsS58.set_0) | exact HI146.out)) hb); have n5_ := Aside0.mk (below_step (by repeat (first | (with_reducible first | exact HB.out | apply below_alloc | apply pw_below_drewN | apply below_drew1 | refine below_set ?_ (IsS58.ge HI146.out)) | exact HB.out)) hb); clear HO149; clear HO155; clear HO161; clear HO167; clear HI146; clear HB; have HO149 := n0_; have HO155 := n1_; have HO161 := n2_; have HO167 := n3_; have HI146 := n4_; have HB := n5_; clear n0_ n1_ n2_ n3_ n4_ n5_; (try clear hb); (try clear hb2); (try clear hk); (try clear hi)))
           go_ret
           exact ⟨by first | rfl | (simp [errW_none, errW_some] <;> rfl) | (simp [*, errW_none, errW_some] <;> rfl), by repeat (first | (with_reducible first | exact HB.out | apply below_alloc | apply pw_below_drewN | apply below_drew1 | refine below_set ?_ (IsS58.ge HI146.out) | refine below_set ?_ GE172.out) | exact HB.out)⟩
          ·rw [if_neg c21] at H
           exact absurd H (by simp)
         ·rw [if_neg c19] at H
          exact absurd H (by simp)
        ·rw [if_neg c17] at H
         exact absurd H (by simp)
       ·rw [if_neg c16] at H
        exact absurd H (by simp)
      ·rw [if_neg c15] at H
       exact absurd H (by simp)
     ·rw [if_neg c14] at H
      exact absurd H (by simp)
    ·rw [if_neg c13] at H
     exact absurd H (by simp)
   ·rw [if_neg c12] at H
    exact absurd H (by simp)
  ·rw [if_neg c11] at H
   exact absurd H (by simp)
 ·rw [if_neg c10] at H
  exact absurd H (by simp)

/-! ### plenumref42_Small: function 24 -/
def plenumref42_Small.l0 : Nat → List (S42) → Int → Option (Bool)
 | 0, _, _ => none
 | k + 1, x0, x3 => if x3 < (x0.length : Int) then (if 0 ≤ x3 then (if ((rd_T42 x0 x3).f0) > 1000 then (if ((rd_T42 x0 x3).f0) ≤ 1000000000 then (some false) else (plenumref42_Small.l0 k x0 (wrap64 (x3 + 1)))) else (plenumref42_Small.l0 k x0 (wrap64 (x3 + 1)))) else (none)) else (some true)
def plenumref42_Small.f (k : Nat) (l0 : List (S42)) : Option (Bool) := if (l0.length : Int) > 40 then (some false) else (plenumref42_Small.l0 k l0 0)
theorem plenumref42_Small.mono_l : ∀ k, (∀ y0 y1, LeO (plenumref42_Small.l0 k y0 y1) (plenumref42_Small.l0 (k + 1) y0 y1))
 | 0 => fun _ _ r h => by simp [plenumref42_Small.l0] at h
 | k + 1 => by
  have ih0 := plenumref42_Small.mono_l k
  ·intro y0 y1
   unfold plenumref42_Small.l0
   repeat' first
   | (with_reducible exact ih0 _ _)
   | (with_reducible exact LeO.refl _)
   | (with_reducible exact LeO.none _)
   | (with_reducible refine LeO.ite ?_ ?_)
   | (with_reducible refine LeO.bind ?_ (fun _ => ?_))
   | exact ih0 _ _
   | exact LeO.none _
   | refine LeO.ite ?_ ?_
   | refine LeO.bind ?_ (fun _ => ?_)
theorem plenumref42_Small.mono : ∀ a0 k, LeO (plenumref42_Small.f k a0) (plenumref42_Small.f (k + 1) a0) := by
 intro a0 k
 have ih0 := plenumref42_Small.mono_l k
 unfold plenumref42_Small.f
 repeat' first
   | (with_reducible exact ih0 _ _)
   | (with_reducible exact LeO.refl _)
   | (with_reducible exact LeO.none _)
   | (with_reducible refine LeO.ite ?_ ?_)
   | (with_reducible refine LeO.bind ?_ (fun _ => ?_))
   | exact ih0 _ _
   | exact LeO.none _
   | refine LeO.ite ?_ ?_
   | refine LeO.bind ?_ (fun _ => ?_)
set_option maxHeartbeats 8000000 in
set_option maxRecDepth 100000 in
theorem plenumref42_Small.calls (k : Nat) (A0 : Option Addr) (c0 : Nat) (l0 : List (S42)) (r : Bool) (w : World) (hr0 : Kd.C k42 w A0 l0.length l0) (hc0 : l0.length ≤ c0) (h : plenumref42_Small.f k l0 = some r) :
  Calls Try.prog 24 #[.slice A0 l0.length c0] w fun e w' => e = .returned (.bool r) ∧ Drawn0 w w' := by
 have HR0 := Aside0.mk hr0
 have HC0 := Aside0.mk hc0
 clear hr0 hc0
 have H : (if (l0.length : Int) > 40 then (some false) else (plenumref42_Small.l0 k l0 0)) = some r := h
 clear h
 by_cases c2 : (l0.length : Int) > 40
 ·rw [if_pos c2] at H
  have c2b0 : decide (40 < (l0.length : Int)) = true := decide_eq_true c2
  have c2b1 : decide (40 < l0.length) = true := decide_eq_true (by omega)
  clear c2
  obtain rfl := Option.some.inj H
  go_enter Try.func24, Try.ntmps24
  go_wp2
  go_ret
  exact ⟨by first | rfl | (simp; done) | (simp [*]; done), by repeat (first | exact Drawn0.refl _ | apply Drawn0.step)⟩
 ·rw [if_neg c2] at H
  have c2b0 : decide (40 < (l0.length : Int)) = false := decide_eq_false c2
  have c2b1 : decide (40 < l0.length) = false := decide_eq_false (by omega)
  clear c2
  have H' := Aside0.mk H
  clear H
  go_enter Try.func24, Try.ntmps24
  go_wp2
  go_loopg [3] k (fun kq v3 w' => ∃ (x3_1 : Int), v3 = .int .i64 x3_1 ∧ Aside0 (plenumref42_Small.l0 kq l0 x3_1 = some r) ∧ Aside0 (kq ≤ k) ∧ Drawn0 w w')
  case atStart => exact ⟨(0), (by first | rfl | (simp; done) | (simp [*]; done)), H', ⟨Nat.le_refl _⟩, by repeat (first | exact Drawn0.refl _ | apply Drawn0.step)⟩
  case round =>
   clear H'
   try clear c2
   try clear c2b0
   try clear c2b1
   try clear p2
   obtain ⟨x3_1, rfl, HA, HK1, ⟨m1, rfl⟩⟩ := hrel
   cases gk with
   | zero => exact absurd HA.out (by simp [plenumref42_Small.l0])
   | succ k1 =>
    have H := HA.out
    clear HA
    simp only [plenumref42_Small.l0] at H
    by_cases c3 : x3_1 < (l0.length : Int)
    ·rw [if_pos c3] at H
     have c3b0 : decide (x3_1 < (l0.length : Int)) = true := decide_eq_true c3
     clear c3
     by_cases c4 : 0 ≤ x3_1
     ·rw [if_pos c4] at H
      have c4b0 : decide (0 ≤ x3_1) = true := decide_eq_true c4
      clear c4
      by_cases c5 : ((rd_T42 l0 x3_1).f0) > 1000
      ·rw [if_pos c5] at H
       have c5b0 : decide (1000 < ((rd_T42 l0 x3_1).f0)) = true := decide_eq_true c5
       clear c5
       by_cases c6 : ((rd_T42 l0 x3_1).f0) ≤ 1000000000
       ·rw [if_pos c6] at H
        have c6b0 : decide (((rd_T42 l0 x3_1).f0) ≤ 1000000000) = true := decide_eq_true c6
        clear c6
        obtain rfl := Option.some.inj H
        have p178 : 0 ≤ (x3_1 : Int) := of_decide_eq_true (by first | (with_reducible assumption) | assumption)
        have q178 : x3_1 < (l0.length : Int) := of_decide_eq_true (by first | (with_reducible assumption) | assumption)
        obtain ⟨ad178, e178, hx178_0, hx178_1, hx178_2, hx178_3, hx178_4, hx178_5⟩ := at_T42 HR0.out x3_1 p178 q178
        cases e178
        replace p178 := eq_true p178
        replace q178 := eq_true q178
        have p179 : 0 ≤ (x3_1 : Int) := of_decide_eq_true (by first | (with_reducible assumption) | assumption)
        have q179 : x3_1 < (l0.length : Int) := of_decide_eq_true (by first | (with_reducible assumption) | assumption)
        obtain ⟨ad179, e179, hx179_0, hx179_1, hx179_2, hx179_3, hx179_4, hx179_5⟩ := at_T42 HR0.out x3_1 p179 q179
        obtain rfl : ad178 = ad179 := (by injection e179)
        replace p179 := eq_true p179
        replace q179 := eq_true q179
        go_wp2
        go_ret
        exact ⟨by first | rfl | (simp; done) | (simp [*]; done), by repeat (first | exact Drawn0.refl _ | apply Drawn0.step)⟩
       ·rw [if_neg c6] at H
        have c6b0 : decide (((rd_T42 l0 x3_1).f0) ≤ 1000000000) = false := decide_eq_false c6
        clear c6
        have H' := Aside0.mk H
        clear H
        have p178 : 0 ≤ (x3_1 : Int) := of_decide_eq_true (by first | (with_reducible assumption) | assumption)
        have q178 : x3_1 < (l0.length : Int) := of_decide_eq_true (by first | (with_reducible assumption) | assumption)
        obtain ⟨ad178, e178, hx178_0, hx178_1, hx178_2, hx178_3, hx178_4, hx178_5⟩ := at_T42 HR0.out x3_1 p178 q178
        cases e178
        replace p178 := eq_true p178
        replace q178 := eq_true q178
        have p179 : 0 ≤ (x3_1 : Int) := of_decide_eq_true (by first | (with_reducible assumption) | assumption)
        have q179 : x3_1 < (l0.length : Int) := of_decide_eq_true (by first | (with_reducible assumption) | assumption)
        obtain ⟨ad179, e179, hx179_0, hx179_1, hx179_2, hx179_3, hx179_4, hx179_5⟩ := at_T42 HR0.out x3_1 p179 q179
        obtain rfl : ad178 = ad179 := (by injection e179)
        replace p179 := eq_true p179
        replace q179 := eq_true q179
        go_wp2
        go_roundg k1
        case measure => have := HK1.out; omega
        case rel => exact ⟨(wrap64 (x3_1 + 1)), (by first | rfl | (simp; done) | (simp [*]; done)), H', ⟨by have := HK1.out; omega⟩, by repeat (first | exact Drawn0.refl _ | apply Drawn0.step)⟩
      ·rw [if_neg c5] at H
       have c5b0 : decide (1000 < ((rd_T42 l0 x3_1).f0)) = false := decide_eq_false c5
       clear c5
       have H' := Aside0.mk H
       clear H
       have p178 : 0 ≤ (x3_1 : Int) := of_decide_eq_true (by first | (with_reducible assumption) | assumption)
       have q178 : x3_1 < (l0.length : Int) := of_decide_eq_true (by first | (with_reducible assumption) | assumption)
       obtain ⟨ad178, e178, hx178_0, hx178_1, hx178_2, hx178_3, hx178_4, hx178_5⟩ := at_T42 HR0.out x3_1 p178 q178
       cases e178
       replace p178 := eq_true p178
       replace q178 := eq_true q178
       go_wp2
       go_roundg k1
       case measure => have := HK1.out; omega
       case rel => exact ⟨(wrap64 (x3_1 + 1)), (by first | rfl | (simp; done) | (simp [*]; done)), H', ⟨by have := HK1.out; omega⟩, by repeat (first | exact Drawn0.refl _ | apply Drawn0.step)⟩
     ·rw [if_neg c4] at H
      exact absurd H (by simp)
    ·rw [if_neg c3] at H
     have c3b0 : decide (x3_1 < (l0.length : Int)) = false := decide_eq_false c3
     clear c3
     obtain rfl := Option.some.inj H
     go_wp2
     go_ret
     exact ⟨by first | rfl | (simp; done) | (simp [*]; done), by repeat (first | exact Drawn0.refl _ | apply Drawn0.step)⟩

/-! ### plenumref42_First: function 22 -/
def plenumref42_First.f (a0_0 : Int) (a0_1 : Int) (a0_2 : Int) (a0_3 : Int) (a0_4 : Int) (a0_5 : Int) : Option (Int) := if a0_5 > 0 then (some (wrap64 ((wrap64 (a0_0 - a0_5)) + 1))) else (some a0_0)
set_option maxHeartbeats 8000000 in
set_option maxRecDepth 100000 in
theorem plenumref42_First.calls (a0_0 : Int) (a0_1 : Int) (a0_2 : Int) (a0_3 : Int) (a0_4 : Int) (a0_5 : Int) (r : Int) (w : World) (h : plenumref42_First.f a0_0 a0_1 a0_2 a0_3 a0_4 a0_5 = some r) :
  Calls Try.prog 22 #[.agg #[.int .i64 a0_0, .int .i64 a0_1, .int .i64 a0_2, .int .i64 a0_3, .int .i64 a0_4, .int .i64 a0_5]] w fun e w' => e = .returned (.int .i64 r) ∧ Below w.heap.size w w' := by
 have hu42 := Try.underlying42
 have HB := Aside0.mk (Below.refl w.heap.size w)
 have H : (if a0_5 > 0 then (some (wrap64 ((wrap64 (a0_0 - a0_5)) + 1))) else (some a0_0)) = some r := h
 clear h
 by_cases c2 : a0_5 > 0
 ·rw [if_pos c2] at H
  have c2b0 : decide (0 < a0_5) = true := decide_eq_true c2
  clear c2
  obtain rfl := Option.some.inj H
  go_enter Try.func22, Try.ntmps22
  go_wp2_with (first | ((with_reducible refine gate_dst (N := 1) rfl ?_); refine box_event ?hg (N := 1) ?hd (cs := #[.int .i64 a0_0, .int .i64 a0_1, .int .i64 a0_2, .int .i64 a0_3, .int .i64 a0_4, .int .i64 a0_5]) (t := 42) ?hr ?_; (case hd => rfl); (case hg => rfl); (case hr => first | (go_simp; done) | (go_simp; rfl)); intro gb180 hg w3 hbox hb; have n0_ := Aside0.mk (below_step (by repeat (first | (with_reducible first | exact HB.out | apply below_alloc | apply pw_below_drewN | apply below_drew1) | exact HB.out)) hb); have n1_ := Aside0.mk (hbox); have n2_ := Aside0.mk ((by rw [hg]; exact (below_size (by repeat (first | (with_reducible first | exact HB.out | apply below_alloc | apply pw_below_drewN | apply below_drew1) | exact HB.out))) : w.heap.size ≤ gb180)); have n3_ := Aside0.mk ((by rw [hg]; exact (below_size (by repeat (first | (with_reducible first | exact HB.out | apply below_alloc | apply pw_below_drewN | apply below_drew1) | exact HB.out))) : w.heap.size ≤ gb180)); clear HB; have HB := n0_; have BK180 := n1_; have GW180 := n2_; have GE180 := n3_; clear n0_ n1_ n2_ n3_; clear hb hbox hg; have hcz4_0 : w3.cell? ⟨gb180, 0, none⟩ = some (.int .i64 a0_0) := (blk_cell BK180.out 0).trans rfl; have hcz4_1 : w3.cell? ⟨gb180, 1, none⟩ = some (.int .i64 a0_1) := (blk_cell BK180.out 1).trans rfl; have hcz4_2 : w3.cell? ⟨gb180, 2, none⟩ = some (.int .i64 a0_2) := (blk_cell BK180.out 2).trans rfl; have hcz4_3 : w3.cell? ⟨gb180, 3, none⟩ = some (.int .i64 a0_3) := (blk_cell BK180.out 3).trans rfl; have hcz4_4 : w3.cell? ⟨gb180, 4, none⟩ = some (.int .i64 a0_4) := (blk_cell BK180.out 4).trans rfl; have hcz4_5 : w3.cell? ⟨gb180, 5, none⟩ = some (.int .i64 a0_5) := (blk_cell BK180.out 5).trans rfl; have hfz4_0 := blk_frozen BK180.out 0; have hfz4_1 := blk_frozen BK180.out 1; have hfz4_2 := blk_frozen BK180.out 2; have hfz4_3 := blk_frozen BK180.out 3; have hfz4_4 := blk_frozen BK180.out 4; have hfz4_5 := blk_frozen BK180.out 5))
  go_ret
  exact ⟨by first | rfl | (simp [errW_none, errW_some] <;> rfl) | (simp [*, errW_none, errW_some] <;> rfl), by repeat (first | (with_reducible first | exact HB.out | apply below_alloc | apply pw_below_drewN | apply below_drew1 | refine below_set ?_ GE180.out) | exact HB.out)⟩
 ·rw [if_neg c2] at H
  have c2b0 : decide (0 < a0_5) = false := decide_eq_false c2
  clear c2
  obtain rfl := Option.some.inj H
  go_enter Try.func22, Try.ntmps22
  go_wp2_with (first | ((with_reducible refine gate_dst (N := 1) rfl ?_); refine box_event ?hg (N := 1) ?hd (cs := #[.int .i64 a0_0, .int .i64 a0_1, .int .i64 a0_2, .int .i64 a0_3, .int .i64 a0_4, .int .i64 a0_5]) (t := 42) ?hr ?_; (case hd => rfl); (case hg => rfl); (case hr => first | (go_simp; done) | (go_simp; rfl)); intro gb180 hg w5 hbox hb; have n0_ := Aside0.mk (below_step (by repeat (first | (with_reducible first | exact HB.out | apply below_alloc | apply pw_below_drewN | apply below_drew1) | exact HB.out)) hb); have n1_ := Aside0.mk (hbox); have n2_ := Aside0.mk ((by rw [hg]; exact (below_size (by repeat (first | (with_reducible first | exact HB.out | apply below_alloc | apply pw_below_drewN | apply below_drew1) | exact HB.out))) : w.heap.size ≤ gb180)); have n3_ := Aside0.mk ((by rw [hg]; exact (below_size (by repeat (first | (with_reducible first | exact HB.out | apply below_alloc | apply pw_below_drewN | apply below_drew1) | exact HB.out))) : w.heap.size ≤ gb180)); clear HB; have HB := n0_; have BK180 := n1_; have GW180 := n2_; have GE180 := n3_; clear n0_ n1_ n2_ n3_; clear hb hbox hg; have hcz6_0 : w5.cell? ⟨gb180, 0, none⟩ = some (.int .i64 a0_0) := (blk_cell BK180.out 0).trans rfl; have hcz6_1 : w5.cell? ⟨gb180, 1, none⟩ = some (.int .i64 a0_1) := (blk_cell BK180.out 1).trans rfl; have hcz6_2 : w5.cell? ⟨gb180, 2, none⟩ = some (.int .i64 a0_2) := (blk_cell BK180.out 2).trans rfl; have hcz6_3 : w5.cell? ⟨gb180, 3, none⟩ = some (.int .i64 a0_3) := (blk_cell BK180.out 3).trans rfl; have hcz6_4 : w5.cell? ⟨gb180, 4, none⟩ = some (.int .i64 a0_4) := (blk_cell BK180.out 4).trans rfl; have hcz6_5 : w5.cell? ⟨gb180, 5, none⟩ = some (.int .i64 a0_5) := (blk_cell BK180.out 5).trans rfl; have hfz6_0 := blk_frozen BK180.out 0; have hfz6_1 := blk_frozen BK180.out 1; have hfz6_2 := blk_frozen BK180.out 2; have hfz6_3 := blk_frozen BK180.out 3; have hfz6_4 := blk_frozen BK180.out 4; have hfz6_5 := blk_frozen BK180.out 5))
  go_ret
  exact ⟨by first | rfl | (simp [errW_none, errW_some] <;> rfl) | (simp [*, errW_none, errW_some] <;> rfl), by repeat (first | (with_reducible first | exact HB.out | apply below_alloc | apply pw_below_drewN | apply below_drew1 | refine below_set ?_ GE180.out) | exact HB.out)⟩

/-! ### plenumref42_Rising: function 39 -/
def plenumref42_Rising.l0 : Nat → List (S42) → Int → Int → Option (Bool)
 | 0, _, _, _ => none
 | k + 1, x0, x3, x4 => if x4 < (x0.length : Int) then (if 0 ≤ x4 then (if ((rd_T42 x0 x4).f4) = 0 then (if ((rd_T42 x0 x4).f1) < x3 then (some false) else (plenumref42_Rising.l0 k x0 ((rd_T42 x0 x4).f1) (wrap64 (x4 + 1)))) else (plenumref42_Rising.l0 k x0 x3 (wrap64 (x4 + 1)))) else (none)) else (some true)
def plenumref42_Rising.f (k : Nat) (l0 : List (S42)) : Option (Bool) := plenumref42_Rising.l0 k l0 0 0
theorem plenumref42_Rising.mono_l : ∀ k, (∀ y0 y1 y2, LeO (plenumref42_Rising.l0 k y0 y1 y2) (plenumref42_Rising.l0 (k + 1) y0 y1 y2))
 | 0 => fun _ _ _ r h => by simp [plenumref42_Rising.l0] at h
 | k + 1 => by
  have ih0 := plenumref42_Rising.mono_l k
  ·intro y0 y1 y2
   unfold plenumref42_Rising.l0
   repeat' first
   | (with_reducible exact ih0 _ _ _)
   | (with_reducible exact LeO.refl _)
   | (with_reducible exact LeO.none _)
   | (with_reducible refine LeO.ite ?_ ?_)
   | (with_reducible refine LeO.bind ?_ (fun _ => ?_))
   | exact ih0 _ _ _
   | exact LeO.none _
   | refine LeO.ite ?_ ?_
   | refine LeO.bind ?_ (fun _ => ?_)
theorem plenumref42_Rising.mono : ∀ a0 k, LeO (plenumref42_Rising.f k a0) (plenumref42_Rising.f (k + 1) a0) := by
 intro a0 k
 have ih0 := plenumref42_Rising.mono_l k
 unfold plenumref42_Rising.f
 repeat' first
   | (with_reducible exact ih0 _ _ _)
   | (with_reducible exact LeO.refl _)
   | (with_reducible exact LeO.none _)
   | (with_reducible refine LeO.ite ?_ ?_)
   | (with_reducible refine LeO.bind ?_ (fun _ => ?_))
   | exact ih0 _ _ _
   | exact LeO.none _
   | refine LeO.ite ?_ ?_
   | refine LeO.bind ?_ (fun _ => ?_)
set_option maxHeartbeats 8000000 in
set_option maxRecDepth 100000 in
theorem plenumref42_Rising.calls (k : Nat) (A0 : Option Addr) (c0 : Nat) (l0 : List (S42)) (r : Bool) (w : World) (hr0 : Kd.C k42 w A0 l0.length l0) (hc0 : l0.length ≤ c0) (h : plenumref42_Rising.f k l0 = some r) :
  Calls Try.prog 39 #[.slice A0 l0.length c0] w fun e w' => e = .returned (.bool r) ∧ Drawn0 w w' := by
 have HR0 := Aside0.mk hr0
 have HC0 := Aside0.mk hc0
 clear hr0 hc0
 have H : (plenumref42_Rising.l0 k l0 0 0) = some r := h
 clear h
 have H' := Aside0.mk H
 clear H
 go_enter Try.func39, Try.ntmps39
 go_wp2
 go_loopg [3, 4] k (fun kq v3 v4 w' => ∃ (x3_1 : Int) (x4_1 : Int), v3 = .int .i64 x3_1 ∧ v4 = .int .i64 x4_1 ∧ Aside0 (plenumref42_Rising.l0 kq l0 x3_1 x4_1 = some r) ∧ Aside0 (kq ≤ k) ∧ Drawn0 w w')
 case atStart => exact ⟨(0), (0), (by first | rfl | (simp; done) | (simp [*]; done)), (by first | rfl | (simp; done) | (simp [*]; done)), H', ⟨Nat.le_refl _⟩, by repeat (first | exact Drawn0.refl _ | apply Drawn0.step)⟩
 case round =>
  clear H'
  obtain ⟨x3_1, x4_1, rfl, rfl, HA, HK1, ⟨m1, rfl⟩⟩ := hrel
  cases gk with
  | zero => exact absurd HA.out (by simp [plenumref42_Rising.l0])
  | succ k1 =>
   have H := HA.out
   clear HA
   simp only [plenumref42_Rising.l0] at H
   by_cases c2 : x4_1 < (l0.length : Int)
   ·rw [if_pos c2] at H
    have c2b0 : decide (x4_1 < (l0.length : Int)) = true := decide_eq_true c2
    clear c2
    by_cases c3 : 0 ≤ x4_1
    ·rw [if_pos c3] at H
     have c3b0 : decide (0 ≤ x4_1) = true := decide_eq_true c3
     clear c3
     by_cases c4 : ((rd_T42 l0 x4_1).f4) = 0
     ·rw [if_pos c4] at H
      have c4b0 : (((rd_T42 l0 x4_1).f4) == 0) = true := beq_iff_eq.mpr c4
      have c4b1 : (((rd_T42 l0 x4_1).f4) != 0) = false := bne_eq_false_iff_eq.mpr c4
      clear c4
      by_cases c5 : ((rd_T42 l0 x4_1).f1) < x3_1
      ·rw [if_pos c5] at H
       have c5b0 : decide (((rd_T42 l0 x4_1).f1) < x3_1) = true := decide_eq_true c5
       clear c5
       obtain rfl := Option.some.inj H
       have p181 : 0 ≤ (x4_1 : Int) := of_decide_eq_true (by first | (with_reducible assumption) | assumption)
       have q181 : x4_1 < (l0.length : Int) := of_decide_eq_true (by first | (with_reducible assumption) | assumption)
       obtain ⟨ad181, e181, hx181_0, hx181_1, hx181_2, hx181_3, hx181_4, hx181_5⟩ := at_T42 HR0.out x4_1 p181 q181
       cases e181
       replace p181 := eq_true p181
       replace q181 := eq_true q181
       have p182 : 0 ≤ (x4_1 : Int) := of_decide_eq_true (by first | (with_reducible assumption) | assumption)
       have q182 : x4_1 < (l0.length : Int) := of_decide_eq_true (by first | (with_reducible assumption) | assumption)
       obtain ⟨ad182, e182, hx182_0, hx182_1, hx182_2, hx182_3, hx182_4, hx182_5⟩ := at_T42 HR0.out x4_1 p182 q182
       obtain rfl : ad181 = ad182 := (by injection e182)
       replace p182 := eq_true p182
       replace q182 := eq_true q182
       go_wp2
       go_ret
       exact ⟨by first | rfl | (simp; done) | (simp [*]; done), by repeat (first | exact Drawn0.refl _ | apply Drawn0.step)⟩
      ·rw [if_neg c5] at H
       have c5b0 : decide (((rd_T42 l0 x4_1).f1) < x3_1) = false := decide_eq_false c5
       clear c5
       have H' := Aside0.mk H
       clear H
       have p181 : 0 ≤ (x4_1 : Int) := of_decide_eq_true (by first | (with_reducible assumption) | assumption)
       have q181 : x4_1 < (l0.length : Int) := of_decide_eq_true (by first | (with_reducible assumption) | assumption)
       obtain ⟨ad181, e181, hx181_0, hx181_1, hx181_2, hx181_3, hx181_4, hx181_5⟩ := at_T42 HR0.out x4_1 p181 q181
       cases e181
       replace p181 := eq_true p181
       replace q181 := eq_true q181
       have p182 : 0 ≤ (x4_1 : Int) := of_decide_eq_true (by first | (with_reducible assumption) | assumption)
       have q182 : x4_1 < (l0.length : Int) := of_decide_eq_true (by first | (with_reducible assumption) | assumption)
       obtain ⟨ad182, e182, hx182_0, hx182_1, hx182_2, hx182_3, hx182_4, hx182_5⟩ := at_T42 HR0.out x4_1 p182 q182
       obtain rfl : ad181 = ad182 := (by injection e182)
       replace p182 := eq_true p182
       replace q182 := eq_true q182
       have p183 : 0 ≤ (x4_1 : Int) := of_decide_eq_true (by first | (with_reducible assumption) | assumption)
       have q183 : x4_1 < (l0.length : Int) := of_decide_eq_true (by first | (with_reducible assumption) | assumption)
       obtain ⟨ad183, e183, hx183_0, hx183_1, hx183_2, hx183_3, hx183_4, hx183_5⟩ := at_T42 HR0.out x4_1 p183 q183
       obtain rfl : ad181 = ad183 := (by injection e183)
       replace p183 := eq_true p183
       replace q183 := eq_true q183
       go_wp2
       go_roundg k1
       case measure => have := HK1.out; omega
       case rel => exact ⟨((rd_T42 l0 x4_1).f1), (wrap64 (x4_1 + 1)), (by first | rfl | (simp; done) | (simp [*]; done)), (by first | rfl | (simp; done) | (simp [*]; done)), H', ⟨by have := HK1.out; omega⟩, by repeat (first | exact Drawn0.refl _ | apply Drawn0.step)⟩
     ·rw [if_neg c4] at H
      have c4b0 : (((rd_T42 l0 x4_1).f4) == 0) = false := beq_eq_false_iff_ne.mpr c4
      have c4b1 : (((rd_T42 l0 x4_1).f4) != 0) = true := bne_iff_ne.mpr c4
      have H' := Aside0.mk H
      clear H
      have p181 : 0 ≤ (x4_1 : Int) := of_decide_eq_true (by first | (with_reducible assumption) | assumption)
      have q181 : x4_1 < (l0.length : Int) := of_decide_eq_true (by first | (with_reducible assumption) | assumption)
      obtain ⟨ad181, e181, hx181_0, hx181_1, hx181_2, hx181_3, hx181_4, hx181_5⟩ := at_T42 HR0.out x4_1 p181 q181
      cases e181
      replace p181 := eq_true p181
      replace q181 := eq_true q181
      go_wp2
      go_roundg k1
      case measure => have := HK1.out; omega
      case rel => exact ⟨(x3_1), (wrap64 (x4_1 + 1)), (by first | rfl | (simp; done) | (simp [*]; done)), (by first | rfl | (simp; done) | (simp [*]; done)), H', ⟨by have := HK1.out; omega⟩, by repeat (first | exact Drawn0.refl _ | apply Drawn0.step)⟩
    ·rw [if_neg c3] at H
     exact absurd H (by simp)
   ·rw [if_neg c2] at H
    have c2b0 : decide (x4_1 < (l0.length : Int)) = false := decide_eq_false c2
    clear c2
    obtain rfl := Option.some.inj H
    go_wp2
    go_ret
    exact ⟨by first | rfl | (simp; done) | (simp [*]; done), by repeat (first | exact Drawn0.refl _ | apply Drawn0.step)⟩

end Go.Proofs.Yteclemahimldeaa.K
