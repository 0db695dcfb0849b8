-- Written by pp.py (a program of this session, over the kit's print.py) out of the translation. Not trusted: Lean checks it.
import Derived.Test.YteclemahimldeaaKx0
import Derived.Test.YteclemahimldeaaKx3
import Derived.Test.YteclemahimldeaaKx4
import Derived.Test.YteclemahimldeaaKx5
namespace Go.Proofs.Yteclemahimldeaa.K
open Go.RowKit Go.Proofs.YteclemahimldeaaW.PrintWords Go.Proofs.YteclemahimldeaaW.PrintLast Go.Proofs.YteclemahimldeaaW.PrintMore
attribute [local go_sem] max2_int min2_int max_two min_two max_three min_three max_four min_four   -- for this text's walks alone
attribute [local go_sem] pp_mod256 pp_mod256_w
set_option linter.unusedVariables false
set_option linter.unusedSimpArgs false


/-! ### collect_Collector_Take: function 13 -/
/-! The rounds of Take, over the list itself. -/
mutual
def collect_Collector_Take.l0 : Nat → List (S42) → Int → Int → List (S42) → Int → Int → Option (Int × Int × (List (S42)))
 | 0, _, _, _, _, _, _ => none
 | k + 1, x7, x8, x9, x24, x25, x26 => if x26 < x25 then (if 0 ≤ x26 then (if x26 < (x24.length : Int) then (if ((rd_T42 x24 x26).f0) < x8 then (collect_Collector_Take.l0 k x7 x8 x9 x24 x25 (wrap64 (x26 + 1))) else (if ((rd_T42 x24 x26).f4) > 0 then ((collect_least.f ((rd_T42 x24 x26).f0) ((rd_T42 x24 x26).f1) ((rd_T42 x24 x26).f2.f0) ((rd_T42 x24 x26).f2.f1) ((rd_T42 x24 x26).f3) ((rd_T42 x24 x26).f4)).bind fun t146 => (collect_Collector_Take.j1 k x7 x8 x9 x24 x25 x26 (decide (t146 < x8)) ((rd_T42 x24 x26).f0) ((rd_T42 x24 x26).f1) ((rd_T42 x24 x26).f2.f0) ((rd_T42 x24 x26).f2.f1) ((rd_T42 x24 x26).f3) ((rd_T42 x24 x26).f4))) else (collect_Collector_Take.j1 k x7 x8 x9 x24 x25 x26 false ((rd_T42 x24 x26).f0) ((rd_T42 x24 x26).f1) ((rd_T42 x24 x26).f2.f0) ((rd_T42 x24 x26).f2.f1) ((rd_T42 x24 x26).f3) ((rd_T42 x24 x26).f4)))) else (none)) else (none)) else ((collect_late.f k x7).bind fun t143 => (if t143 ≥ 0 then (some (0, 15, x7)) else (some (x9, 0, x7))))
def collect_Collector_Take.j1 : Nat → List (S42) → Int → Int → List (S42) → Int → Int → Bool → Int → Int → Int → Int → Int → Int → Option (Int × Int × (List (S42)))
 | 0, _, _, _, _, _, _, _, _, _, _, _, _, _ => none
 | k + 1, x7, x8, x9, x24, x25, x26, x42, x146000, x146001, x146002, x146003, x146004, x146005 => if x42 = true then ((collect_gap.f x8 x146000).bind fun bt147 => (collect_Collector_Take.j2 k x7 x8 x9 x24 x25 x26 bt147.1 bt147.2.1 bt147.2.2.1 bt147.2.2.2.1 bt147.2.2.2.2.1 bt147.2.2.2.2.2)) else (collect_Collector_Take.j2 k x7 x8 x9 x24 x25 x26 x146000 x146001 x146002 x146003 x146004 x146005)
def collect_Collector_Take.j2 : Nat → List (S42) → Int → Int → List (S42) → Int → Int → Int → Int → Int → Int → Int → Int → Option (Int × Int × (List (S42)))
 | 0, _, _, _, _, _, _, _, _, _, _, _, _ => none
 | k + 1, x7, x8, x9, x24, x25, x26, x146000, x146001, x146002, x146003, x146004, x146005 => (collect_least.f x146000 x146001 x146002 x146003 x146004 x146005).bind fun t153 => (if t153 > x8 then ((collect_least.f x146000 x146001 x146002 x146003 x146004 x146005).bind fun t154 => ((collect_gap.f x8 (wrap64 (t154 - 1))).bind fun bt155 => ((collect_put.f x7 bt155.1 bt155.2.1 bt155.2.2.1 bt155.2.2.2.1 bt155.2.2.2.2.1 bt155.2.2.2.2.2).bind fun t161 => (if x146005 = 0 then ((collect_put.f t161 x146000 x146001 x146002 x146003 x146004 x146005).bind fun t164 => (collect_Collector_Take.l0 k t164 (wrap64 (x146000 + 1)) (wrap64 (x9 + 1)) x24 x25 (wrap64 (x26 + 1)))) else ((collect_put.f t161 x146000 x146001 x146002 x146003 x146004 x146005).bind fun t167 => (collect_Collector_Take.l0 k t167 (wrap64 (x146000 + 1)) x9 x24 x25 (wrap64 (x26 + 1)))))))) else (if x146005 = 0 then ((collect_put.f x7 x146000 x146001 x146002 x146003 x146004 x146005).bind fun t170 => (collect_Collector_Take.l0 k t170 (wrap64 (x146000 + 1)) (wrap64 (x9 + 1)) x24 x25 (wrap64 (x26 + 1)))) else ((collect_put.f x7 x146000 x146001 x146002 x146003 x146004 x146005).bind fun t173 => (collect_Collector_Take.l0 k t173 (wrap64 (x146000 + 1)) x9 x24 x25 (wrap64 (x26 + 1))))))
end
def collect_Collector_Take.g (k : Nat) (l0 : List (S42)) (l1 : List (S42)) : Option (Int × Int × (List (S42))) := (collect_Check.f k l1).bind fun t138 => (if t138 = 0 then ((api_Record_32.f l0).bind fun t139 => ((collect_Collector_From.g l0).bind fun t142 => (collect_Collector_Take.l0 k t139 t142 0 l1 (l1.length : Int) 0))) else (some (0, t138, ([] : List (S42)))))
theorem collect_Collector_Take.mono_l : ∀ k, (∀ y0 y1 y2 y3 y4 y5, LeO (collect_Collector_Take.l0 k y0 y1 y2 y3 y4 y5) (collect_Collector_Take.l0 (k + 1) y0 y1 y2 y3 y4 y5)) ∧ (∀ y0 y1 y2 y3 y4 y5 y6 y7 y8 y9 y10 y11 y12, LeO (collect_Collector_Take.j1 k y0 y1 y2 y3 y4 y5 y6 y7 y8 y9 y10 y11 y12) (collect_Collector_Take.j1 (k + 1) y0 y1 y2 y3 y4 y5 y6 y7 y8 y9 y10 y11 y12)) ∧ (∀ y0 y1 y2 y3 y4 y5 y6 y7 y8 y9 y10 y11, LeO (collect_Collector_Take.j2 k y0 y1 y2 y3 y4 y5 y6 y7 y8 y9 y10 y11) (collect_Collector_Take.j2 (k + 1) y0 y1 y2 y3 y4 y5 y6 y7 y8 y9 y10 y11))
 | 0 => ⟨fun _ _ _ _ _ _ r h => by simp [collect_Collector_Take.l0] at h, fun _ _ _ _ _ _ _ _ _ _ _ _ _ r h => by simp [collect_Collector_Take.j1] at h, fun _ _ _ _ _ _ _ _ _ _ _ _ r h => by simp [collect_Collector_Take.j2] at h⟩
 | k + 1 => by
  obtain ⟨ih0, ih1, ih2⟩ := collect_Collector_Take.mono_l k
  refine ⟨?_, ?_, ?_⟩
  ·intro y0 y1 y2 y3 y4 y5
   unfold collect_Collector_Take.l0
   repeat' first
   | (with_reducible exact ih0 _ _ _ _ _ _)
   | (with_reducible exact ih1 _ _ _ _ _ _ _ _ _ _ _ _ _)
   | (with_reducible exact ih2 _ _ _ _ _ _ _ _ _ _ _ _)
   | (with_reducible exact collect_Check.mono _ _)
   | (with_reducible exact collect_late.mono _ _)
   | (with_reducible exact LeO.refl _)
   | (with_reducible exact LeO.none _)
   | (with_reducible refine LeO.ite ?_ ?_)
   | (with_reducible refine LeO.bind ?_ (fun _ => ?_))
   | exact ih0 _ _ _ _ _ _
   | exact ih1 _ _ _ _ _ _ _ _ _ _ _ _ _
   | exact ih2 _ _ _ _ _ _ _ _ _ _ _ _
   | exact collect_Check.mono _ _
   | exact collect_late.mono _ _
   | exact LeO.none _
   | refine LeO.ite ?_ ?_
   | refine LeO.bind ?_ (fun _ => ?_)
  ·intro y0 y1 y2 y3 y4 y5 y6 y7 y8 y9 y10 y11 y12
   unfold collect_Collector_Take.j1
   repeat' first
   | (with_reducible exact ih0 _ _ _ _ _ _)
   | (with_reducible exact ih1 _ _ _ _ _ _ _ _ _ _ _ _ _)
   | (with_reducible exact ih2 _ _ _ _ _ _ _ _ _ _ _ _)
   | (with_reducible exact collect_Check.mono _ _)
   | (with_reducible exact collect_late.mono _ _)
   | (with_reducible exact LeO.refl _)
   | (with_reducible exact LeO.none _)
   | (with_reducible refine LeO.ite ?_ ?_)
   | (with_reducible refine LeO.bind ?_ (fun _ => ?_))
   | exact ih0 _ _ _ _ _ _
   | exact ih1 _ _ _ _ _ _ _ _ _ _ _ _ _
   | exact ih2 _ _ _ _ _ _ _ _ _ _ _ _
   | exact collect_Check.mono _ _
   | exact collect_late.mono _ _
   | exact LeO.none _
   | refine LeO.ite ?_ ?_
   | refine LeO.bind ?_ (fun _ => ?_)
  ·intro y0 y1 y2 y3 y4 y5 y6 y7 y8 y9 y10 y11
   unfold collect_Collector_Take.j2
   repeat' first
   | (with_reducible exact ih0 _ _ _ _ _ _)
   | (with_reducible exact ih1 _ _ _ _ _ _ _ _ _ _ _ _ _)
   | (with_reducible exact ih2 _ _ _ _ _ _ _ _ _ _ _ _)
   | (with_reducible exact collect_Check.mono _ _)
   | (with_reducible exact collect_late.mono _ _)
   | (with_reducible exact LeO.refl _)
   | (with_reducible exact LeO.none _)
   | (with_reducible refine LeO.ite ?_ ?_)
   | (with_reducible refine LeO.bind ?_ (fun _ => ?_))
   | exact ih0 _ _ _ _ _ _
   | exact ih1 _ _ _ _ _ _ _ _ _ _ _ _ _
   | exact ih2 _ _ _ _ _ _ _ _ _ _ _ _
   | exact collect_Check.mono _ _
   | exact collect_late.mono _ _
   | exact LeO.none _
   | refine LeO.ite ?_ ?_
   | refine LeO.bind ?_ (fun _ => ?_)
theorem collect_Collector_Take.monog : ∀ a0 a1 k, LeO (collect_Collector_Take.g k a0 a1) (collect_Collector_Take.g (k + 1) a0 a1) := by
 intro a0 a1 k
 obtain ⟨ih0, ih1, ih2⟩ := collect_Collector_Take.mono_l k
 unfold collect_Collector_Take.g
 repeat' first
   | (with_reducible exact ih0 _ _ _ _ _ _)
   | (with_reducible exact ih1 _ _ _ _ _ _ _ _ _ _ _ _ _)
   | (with_reducible exact ih2 _ _ _ _ _ _ _ _ _ _ _ _)
   | (with_reducible exact collect_Check.mono _ _)
   | (with_reducible exact collect_late.mono _ _)
   | (with_reducible exact LeO.refl _)
   | (with_reducible exact LeO.none _)
   | (with_reducible refine LeO.ite ?_ ?_)
   | (with_reducible refine LeO.bind ?_ (fun _ => ?_))
   | exact ih0 _ _ _ _ _ _
   | exact ih1 _ _ _ _ _ _ _ _ _ _ _ _ _
   | exact ih2 _ _ _ _ _ _ _ _ _ _ _ _
   | exact collect_Check.mono _ _
   | exact collect_late.mono _ _
   | exact LeO.none _
   | refine LeO.ite ?_ ?_
   | refine LeO.bind ?_ (fun _ => ?_)
set_option maxHeartbeats 8000000 in
set_option maxRecDepth 100000 in
theorem collect_Collector_Take.calls0 (k : Nat) (g : Nat) (l0 : List (S42)) (A1 : Option Addr) (c1 : Nat) (l1 : List (S42)) (r1 : Int) (r2 : Int) (r3 : List (S42)) (w0 w : World) (hI : IsS58 w0 w g l0) (hBB : Below w0.heap.size w0 w) (hr1 : Kd.C k42 w A1 l1.length l1) (hc1 : l1.length ≤ c1) (h : collect_Collector_Take.g k l0 l1 = some (r1, r2, r3)) :
  Calls Try.prog 13 #[.pointer (some ⟨g, 0, none⟩), .slice A1 l1.length c1] w fun e w' => e = .returned (.tuple #[.int .i64 r1, .int .i64 r2]) ∧ IsS58 w0 w' g (if r2 = 0 then r3 else l0) ∧ Below w0.heap.size w0 w' ∧ KeepBut w w' g none := by
 have hu42 := Try.underlying42
 have HI := Aside0.mk hI
 have HBB := Aside0.mk hBB
 obtain ⟨A0, c0, hbg, hc0, hr0, -⟩ := hI.open_
 have hczg : w.cell? ⟨g, 0, none⟩ = some (.slice A0 l0.length c0) := (blk_cell hbg 0).trans rfl
 have BKG := Aside0.mk hbg
 clear hI hBB hbg
 have HR0 := Aside0.mk hr0
 have HC0 := Aside0.mk hc0
 clear hr0 hc0
 have HR1 := Aside0.mk hr1
 have HC1 := Aside0.mk hc1
 clear hr1 hc1
 have HB := Aside0.mk (Below.refl w.heap.size w)
 have H : ((collect_Check.f k l1).bind fun t138 => (if t138 = 0 then ((api_Record_32.f l0).bind fun t139 => ((collect_Collector_From.g l0).bind fun t142 => (collect_Collector_Take.l0 k t139 t142 0 l1 (l1.length : Int) 0))) else (some (0, t138, ([] : List (S42)))))) = some (r1, r2, r3) := h
 clear h
 replace H := Option.bind_eq_some_iff.mp H
 obtain ⟨t138, A30, H⟩ := H
 replace H : (if t138 = 0 then ((api_Record_32.f l0).bind fun t139 => ((collect_Collector_From.g l0).bind fun t142 => (collect_Collector_Take.l0 k t139 t142 0 l1 (l1.length : Int) 0))) else (some (0, t138, ([] : List (S42))))) = some (r1, r2, r3) := H
 have A3 := Aside0.mk A30
 clear A30
 by_cases c4 : t138 = 0
 ·rw [if_pos c4] at H
  have c4b0 : (t138 == 0) = true := beq_iff_eq.mpr c4
  have c4b1 : (t138 != 0) = false := bne_eq_false_iff_eq.mpr c4
  clear c4
  replace H := Option.bind_eq_some_iff.mp H
  obtain ⟨t139, A50, H⟩ := H
  replace H : ((collect_Collector_From.g l0).bind fun t142 => (collect_Collector_Take.l0 k t139 t142 0 l1 (l1.length : Int) 0)) = some (r1, r2, r3) := H
  have A5 := Aside0.mk A50
  clear A50
  replace H := Option.bind_eq_some_iff.mp H
  obtain ⟨t142, A60, H⟩ := H
  replace H : (collect_Collector_Take.l0 k t139 t142 0 l1 (l1.length : Int) 0) = some (r1, r2, r3) := H
  have A6 := Aside0.mk A60
  clear A60
  have H' := Aside0.mk H
  clear H
  go_enter Try.func13, Try.ntmps13
  go_wp2_with (first | ((with_reducible refine gate_callee (f := 21) rfl ?_); refine goesL_ (some 13) rfl rfl Try.func21 (by kernel_rfl) rfl #[.slice A1 l1.length c1] rfl (by (try simp only [List.map_toArray, List.map_cons, List.map_nil]); first | done | rfl | (simp only [List.length_drop, List.length_take]; rfl)) ?_; (with_reducible refine (collect_Check.calls k _ _ l1 t138 _ ?side1 ?side2 A3.out).mono ?_); (case side1 => repeat (first | exact HR1.out | (with_reducible refine Kd.C_alloc ?_ _) | (with_reducible refine Kd.C_drewN ?_ _) | (with_reducible refine Kd.C_drew ?_))); (case side2 => exact HC1.out); rintro e w7 ⟨rfl, hb⟩; refine ⟨_, rfl, ?_⟩; have n0_ := Aside0.mk (below_step (by repeat (first | (with_reducible first | exact HB.out | apply below_alloc | apply pw_below_drewN | apply below_drew1) | exact HB.out)) hb); clear HB; have HB := n0_; clear n0_; (try clear hb); (try clear hb2); (try clear hk); (try clear hi); have hczg7 := (HB.out.cell (World.block_lt_of_cell? w _ hczg)).trans hczg) | ((with_reducible refine gate_callee (f := 32) rfl ?_); refine goesL_ (some 21) rfl rfl Try.func32 (by kernel_rfl) rfl #[.slice A0 l0.length c0] rfl (by (try simp only [List.map_toArray, List.map_cons, List.map_nil]); first | done | rfl | (simp only [List.length_drop, List.length_take]; rfl)) ?_; (with_reducible refine (api_Record_32.calls _ _ l0 t139 _ ?side1 ?side2 A5.out).mono ?_); (case side1 => repeat (first | exact (Kd.C_below HR0.out HB.out) | (with_reducible refine Kd.C_alloc ?_ _) | (with_reducible refine Kd.C_drewN ?_ _) | (with_reducible refine Kd.C_drew ?_))); (case side2 => exact HC0.out); rintro e w8 ⟨v140, rfl, ho0, hb⟩; refine ⟨_, rfl, ?_⟩; have n0_ := Aside0.mk (Kd.R_lower ho0 (below_size (by repeat (first | (with_reducible first | exact HB.out | apply below_alloc | apply pw_below_drewN | apply below_drew1) | exact HB.out)))); have n1_ := Aside0.mk (below_step (by repeat (first | (with_reducible first | exact HB.out | apply below_alloc | apply pw_below_drewN | apply below_drew1) | exact HB.out)) hb); clear HB; have HO141 := n0_; have HB := n1_; clear n0_ n1_; (try clear hb); (try clear hb2); (try clear hk); (try clear hi); (try clear ho0)) | ((with_reducible refine gate_callee (f := 15) rfl ?_); refine goesL_ (some 23) rfl rfl Try.func15 (by kernel_rfl) rfl #[.pointer (some ⟨g, 0, none⟩)] rfl (by (try simp only [List.map_toArray, List.map_cons, List.map_nil]); first | done | rfl | (simp only [List.length_drop, List.length_take]; rfl)) ?_; (with_reducible refine (collect_Collector_From.calls0 g l0 t142 w0 _ ?side1 A6.out).mono ?_); (case side1 => exact IsS58.below HI.out (by repeat (first | (with_reducible first | exact HB.out | apply below_alloc | apply pw_below_drewN | apply below_drew1) | exact HB.out))); rintro e w9 ⟨rfl, hb⟩; refine ⟨_, rfl, ?_⟩; have n0_ := Aside0.mk (Kd.R_below (by (with_reducible repeat (first | apply Kd.R_alloc | apply Kd.R_drewN | apply Kd.R_drew)); exact HO141.out) hb); have n1_ := Aside0.mk (below_step (by repeat (first | (with_reducible first | exact HB.out | apply below_alloc | apply pw_below_drewN | apply below_drew1) | exact HB.out)) hb); clear HO141; clear HB; have HO141 := n0_; have HB := n1_; clear n0_ n1_; (try clear hb); (try clear hb2); (try clear hk); (try clear hi)))
  go_loopg [7, 8, 9, 26] k (fun kq v7 v8 v9 v26 w' => ∃ (x7_1 : List (S42)) (x8_1 : Int) (x9_1 : Int) (x26_1 : Int), v8 = .int .i64 x8_1 ∧ v9 = .int .i64 x9_1 ∧ v26 = .int .i64 x26_1 ∧ Aside0 (collect_Collector_Take.l0 kq x7_1 x8_1 x9_1 l1 (l1.length : Int) x26_1 = some (r1, r2, r3)) ∧ Aside0 (kq ≤ k) ∧ Aside0 (Kd.R k42 42 w' w.heap.size (fun _ => True) v7 x7_1) ∧ Aside0 (Below w.heap.size w w'))
  case atStart => exact ⟨(t139), (t142), (0), (0), (by first | rfl | (simp; done) | (simp [*]; done)), (by first | rfl | (simp; done) | (simp [*]; done)), (by first | rfl | (simp; done) | (simp [*]; done)), H', ⟨Nat.le_refl _⟩, ⟨by (with_reducible repeat (first | apply Kd.R_alloc | apply Kd.R_drewN | apply Kd.R_drew)); exact HO141.out⟩, ⟨by repeat (first | (with_reducible first | exact HB.out | apply below_alloc | apply pw_below_drewN | apply below_drew1) | exact HB.out)⟩⟩
  case round =>
   clear H'
   try clear c1
   try clear c2
   try clear p2
   try clear c3
   try clear c4
   try clear c4b0
   try clear c4b1
   obtain ⟨x7_1, x8_1, x9_1, x26_1, rfl, rfl, rfl, HA, HK1, HO_7, HB⟩ := hrel
   cases gk with
   | zero => exact absurd HA.out (by simp [collect_Collector_Take.l0])
   | succ k1 =>
    have H := HA.out
    clear HA
    simp only [collect_Collector_Take.l0] at H
    by_cases c10 : x26_1 < (l1.length : Int)
    ·rw [if_pos c10] at H
     have c10b0 : decide (x26_1 < (l1.length : Int)) = true := decide_eq_true c10
     clear c10
     by_cases c11 : 0 ≤ x26_1
     ·rw [if_pos c11] at H
      have c11b0 : decide (0 ≤ x26_1) = true := decide_eq_true c11
      clear c11
      by_cases c12 : x26_1 < (l1.length : Int)
      ·rw [if_pos c12] at H
       have c12b0 : decide (x26_1 < (l1.length : Int)) = true := decide_eq_true c12
       clear c12
       by_cases c13 : ((rd_T42 l1 x26_1).f0) < x8_1
       ·rw [if_pos c13] at H
        have c13b0 : decide (((rd_T42 l1 x26_1).f0) < x8_1) = true := decide_eq_true c13
        clear c13
        have H' := Aside0.mk H
        clear H
        have p144 : 0 ≤ (x26_1 : Int) := of_decide_eq_true (by first | (with_reducible assumption) | assumption)
        have q144 : x26_1 < (l1.length : Int) := of_decide_eq_true (by first | (with_reducible assumption) | assumption)
        obtain ⟨ad144, e144, hx144_0, hx144_1, hx144_2, hx144_3, hx144_4, hx144_5⟩ := at_T42 HR1.out x26_1 p144 q144
        cases e144
        replace hx144_0 := (HB.out.cell (World.block_lt_of_cell? w _ hx144_0)).trans hx144_0
        replace hx144_1 := (HB.out.cell (World.block_lt_of_cell? w _ hx144_1)).trans hx144_1
        replace hx144_2 := (HB.out.cell (World.block_lt_of_cell? w _ hx144_2)).trans hx144_2
        replace hx144_3 := (HB.out.cell (World.block_lt_of_cell? w _ hx144_3)).trans hx144_3
        replace hx144_4 := (HB.out.cell (World.block_lt_of_cell? w _ hx144_4)).trans hx144_4
        replace hx144_5 := (HB.out.cell (World.block_lt_of_cell? w _ hx144_5)).trans hx144_5
        replace p144 := eq_true p144
        replace q144 := eq_true q144
        go_wp2_with (first | ((with_reducible refine gate_dst (N := 11) rfl ?_); refine box_event ?hg (N := 11) ?hd (cs := #[.int .i64 0, .int .i64 0, .int .i64 0, .int .i64 0, .int .i64 0, .int .i64 0]) (t := 42) ?hr ?_; (case hd => rfl); (case hg => rfl); (case hr => first | (go_simp; done) | (go_simp; rfl)); intro gb145 hg w14 hbox hb; have n0_ := Aside0.mk (Kd.R_below (Kd.R_elderB (by (with_reducible repeat (first | apply Kd.R_alloc | apply Kd.R_drewN | apply Kd.R_drew)); exact HO_7.out) gb145 (Nat.le_of_eq hg.symm)) hb); have n1_ := Aside0.mk (below_step (by repeat (first | (with_reducible first | exact HB.out | apply below_alloc | apply pw_below_drewN | apply below_drew1) | exact HB.out)) hb); have n2_ := Aside0.mk (hbox); have n3_ := Aside0.mk ((by rw [hg]; exact (below_size (by repeat (first | (with_reducible first | exact HB.out | apply below_alloc | apply pw_below_drewN | apply below_drew1) | exact HB.out))) : w.heap.size ≤ gb145)); have n4_ := Aside0.mk ((by rw [hg]; exact (below_size (by repeat (first | (with_reducible first | exact HB.out | apply below_alloc | apply pw_below_drewN | apply below_drew1) | exact HB.out))) : w.heap.size ≤ gb145)); clear HO_7; clear HB; have HO_7 := n0_; have HB := n1_; have BK145 := n2_; have GW145 := n3_; have GE145 := n4_; clear n0_ n1_ n2_ n3_ n4_; clear hb hbox hg; have hcz15_0 : w14.cell? ⟨gb145, 0, none⟩ = some (.int .i64 0) := (blk_cell BK145.out 0).trans rfl; have hcz15_1 : w14.cell? ⟨gb145, 1, none⟩ = some (.int .i64 0) := (blk_cell BK145.out 1).trans rfl; have hcz15_2 : w14.cell? ⟨gb145, 2, none⟩ = some (.int .i64 0) := (blk_cell BK145.out 2).trans rfl; have hcz15_3 : w14.cell? ⟨gb145, 3, none⟩ = some (.int .i64 0) := (blk_cell BK145.out 3).trans rfl; have hcz15_4 : w14.cell? ⟨gb145, 4, none⟩ = some (.int .i64 0) := (blk_cell BK145.out 4).trans rfl; have hcz15_5 : w14.cell? ⟨gb145, 5, none⟩ = some (.int .i64 0) := (blk_cell BK145.out 5).trans rfl; have hfz15_0 := blk_frozen BK145.out 0; have hfz15_1 := blk_frozen BK145.out 1; have hfz15_2 := blk_frozen BK145.out 2; have hfz15_3 := blk_frozen BK145.out 3; have hfz15_4 := blk_frozen BK145.out 4; have hfz15_5 := blk_frozen BK145.out 5))
        go_roundg k1
        case measure => have := HK1.out; omega
        case rel => exact ⟨(x7_1), (x8_1), (x9_1), (wrap64 (x26_1 + 1)), (by first | rfl | (simp; done) | (simp [*]; done)), (by first | rfl | (simp; done) | (simp [*]; done)), (by first | rfl | (simp; done) | (simp [*]; done)), H', ⟨by have := HK1.out; omega⟩, ⟨by (with_reducible repeat (first | apply Kd.R_alloc | apply Kd.R_drewN | apply Kd.R_drew)); exact Kd.R_mono (Kd.R_far (p := ⟨gb145, 5, none⟩) (Kd.R_far (p := ⟨gb145, 4, none⟩) (Kd.R_far (p := ⟨gb145, 3, none⟩) (Kd.R_far (p := ⟨gb145, 2, none⟩) (Kd.R_far (p := ⟨gb145, 1, none⟩) (Kd.R_far (p := ⟨gb145, 0, none⟩) (Kd.R_mono HO_7.out (fun k_ hk => (⟨hk, hk.2⟩ : _ ∧ k_ ≠ gb145))) (fun _ hk => hk.2) (.int .i64 ((rd_T42 l1 x26_1).f0))) (fun _ hk => hk.2) (.int .i64 ((rd_T42 l1 x26_1).f1))) (fun _ hk => hk.2) (.int .i64 ((rd_T42 l1 x26_1).f2.f0))) (fun _ hk => hk.2) (.int .i64 ((rd_T42 l1 x26_1).f2.f1))) (fun _ hk => hk.2) (.int .i64 ((rd_T42 l1 x26_1).f3))) (fun _ hk => hk.2) (.int .i64 ((rd_T42 l1 x26_1).f4))) (fun _ hk => trivial)⟩, ⟨by repeat (first | (with_reducible first | exact HB.out | apply below_alloc | apply pw_below_drewN | apply below_drew1 | refine below_set ?_ GE145.out) | exact HB.out)⟩⟩
       ·rw [if_neg c13] at H
        have c13b0 : decide (((rd_T42 l1 x26_1).f0) < x8_1) = false := decide_eq_false c13
        clear c13
        have HC16 := Aside0.mk H
        clear H
        have p144 : 0 ≤ (x26_1 : Int) := of_decide_eq_true (by first | (with_reducible assumption) | assumption)
        have q144 : x26_1 < (l1.length : Int) := of_decide_eq_true (by first | (with_reducible assumption) | assumption)
        obtain ⟨ad144, e144, hx144_0, hx144_1, hx144_2, hx144_3, hx144_4, hx144_5⟩ := at_T42 HR1.out x26_1 p144 q144
        cases e144
        replace hx144_0 := (HB.out.cell (World.block_lt_of_cell? w _ hx144_0)).trans hx144_0
        replace hx144_1 := (HB.out.cell (World.block_lt_of_cell? w _ hx144_1)).trans hx144_1
        replace hx144_2 := (HB.out.cell (World.block_lt_of_cell? w _ hx144_2)).trans hx144_2
        replace hx144_3 := (HB.out.cell (World.block_lt_of_cell? w _ hx144_3)).trans hx144_3
        replace hx144_4 := (HB.out.cell (World.block_lt_of_cell? w _ hx144_4)).trans hx144_4
        replace hx144_5 := (HB.out.cell (World.block_lt_of_cell? w _ hx144_5)).trans hx144_5
        replace p144 := eq_true p144
        replace q144 := eq_true q144
        go_upto_region 11 with (first | ((with_reducible refine gate_dst (N := 11) rfl ?_); refine box_event ?hg (N := 11) ?hd (cs := #[.int .i64 0, .int .i64 0, .int .i64 0, .int .i64 0, .int .i64 0, .int .i64 0]) (t := 42) ?hr ?_; (case hd => rfl); (case hg => rfl); (case hr => first | (go_simp; done) | (go_simp; rfl)); intro gb145 hg w17 hbox hb; have n0_ := Aside0.mk (Kd.R_below (Kd.R_elderB (by (with_reducible repeat (first | apply Kd.R_alloc | apply Kd.R_drewN | apply Kd.R_drew)); exact HO_7.out) gb145 (Nat.le_of_eq hg.symm)) hb); have n1_ := Aside0.mk (below_step (by repeat (first | (with_reducible first | exact HB.out | apply below_alloc | apply pw_below_drewN | apply below_drew1) | exact HB.out)) hb); have n2_ := Aside0.mk (hbox); have n3_ := Aside0.mk ((by rw [hg]; exact (below_size (by repeat (first | (with_reducible first | exact HB.out | apply below_alloc | apply pw_below_drewN | apply below_drew1) | exact HB.out))) : w.heap.size ≤ gb145)); have n4_ := Aside0.mk ((by rw [hg]; exact (below_size (by repeat (first | (with_reducible first | exact HB.out | apply below_alloc | apply pw_below_drewN | apply below_drew1) | exact HB.out))) : w.heap.size ≤ gb145)); clear HO_7; clear HB; have HO_7 := n0_; have HB := n1_; have BK145 := n2_; have GW145 := n3_; have GE145 := n4_; clear n0_ n1_ n2_ n3_ n4_; clear hb hbox hg; have hcz18_0 : w17.cell? ⟨gb145, 0, none⟩ = some (.int .i64 0) := (blk_cell BK145.out 0).trans rfl; have hcz18_1 : w17.cell? ⟨gb145, 1, none⟩ = some (.int .i64 0) := (blk_cell BK145.out 1).trans rfl; have hcz18_2 : w17.cell? ⟨gb145, 2, none⟩ = some (.int .i64 0) := (blk_cell BK145.out 2).trans rfl; have hcz18_3 : w17.cell? ⟨gb145, 3, none⟩ = some (.int .i64 0) := (blk_cell BK145.out 3).trans rfl; have hcz18_4 : w17.cell? ⟨gb145, 4, none⟩ = some (.int .i64 0) := (blk_cell BK145.out 4).trans rfl; have hcz18_5 : w17.cell? ⟨gb145, 5, none⟩ = some (.int .i64 0) := (blk_cell BK145.out 5).trans rfl; have hfz18_0 := blk_frozen BK145.out 0; have hfz18_1 := blk_frozen BK145.out 1; have hfz18_2 := blk_frozen BK145.out 2; have hfz18_3 := blk_frozen BK145.out 3; have hfz18_4 := blk_frozen BK145.out 4; have hfz18_5 := blk_frozen BK145.out 5))
        (try simp only [Act.put, List.setIfInBounds_toArray, List.set_cons_zero, List.set_cons_succ])
        go_cut [42] (fun v42 wc => ∃ (kq : Nat) (x42_15 : Bool), v42 = .bool x42_15 ∧ Aside0 (collect_Collector_Take.j1 kq x7_1 x8_1 x9_1 l1 (l1.length : Int) x26_1 x42_15 ((rd_T42 l1 x26_1).f0) ((rd_T42 l1 x26_1).f1) ((rd_T42 l1 x26_1).f2.f0) ((rd_T42 l1 x26_1).f2.f1) ((rd_T42 l1 x26_1).f3) ((rd_T42 l1 x26_1).f4) = some (r1, r2, r3)) ∧ Aside0 (kq ≤ k1) ∧ Aside0 (Kd.R k42 42 wc w.heap.size (fun k_ => k_ ≠ gb145) u7 x7_1) ∧ Aside0 (wc.heap[gb145]? = some (.cells #[.int .i64 ((rd_T42 l1 x26_1).f0), .int .i64 ((rd_T42 l1 x26_1).f1), .int .i64 ((rd_T42 l1 x26_1).f2.f0), .int .i64 ((rd_T42 l1 x26_1).f2.f1), .int .i64 ((rd_T42 l1 x26_1).f3), .int .i64 ((rd_T42 l1 x26_1).f4)] 42 (0, 0))) ∧ Aside0 (Below w.heap.size w wc))
        case first =>
         have H := HC16.out
         clear HC16
         by_cases c19 : ((rd_T42 l1 x26_1).f4) > 0
         ·rw [if_pos c19] at H
          have c19b0 : decide (0 < ((rd_T42 l1 x26_1).f4)) = true := decide_eq_true c19
          clear c19
          (first | rw [c19b0] | (simp only [i64_w, i32_w]; rw [c19b0]) | skip)
          replace H := Option.bind_eq_some_iff.mp H
          obtain ⟨t146, A200, H⟩ := H
          replace H : (collect_Collector_Take.j1 k1 x7_1 x8_1 x9_1 l1 (l1.length : Int) x26_1 (decide (t146 < x8_1)) ((rd_T42 l1 x26_1).f0) ((rd_T42 l1 x26_1).f1) ((rd_T42 l1 x26_1).f2.f0) ((rd_T42 l1 x26_1).f2.f1) ((rd_T42 l1 x26_1).f3) ((rd_T42 l1 x26_1).f4)) = some (r1, r2, r3) := H
          have A20 := Aside0.mk A200
          clear A200
          have H' := Aside0.mk H
          clear H
          have hcz21_0 : w17.cell? ⟨gb145, 0, none⟩ = some (.int .i64 0) := (blk_cell BK145.out 0).trans rfl
          have hcz21_1 : w17.cell? ⟨gb145, 1, none⟩ = some (.int .i64 0) := (blk_cell BK145.out 1).trans rfl
          have hcz21_2 : w17.cell? ⟨gb145, 2, none⟩ = some (.int .i64 0) := (blk_cell BK145.out 2).trans rfl
          have hcz21_3 : w17.cell? ⟨gb145, 3, none⟩ = some (.int .i64 0) := (blk_cell BK145.out 3).trans rfl
          have hcz21_4 : w17.cell? ⟨gb145, 4, none⟩ = some (.int .i64 0) := (blk_cell BK145.out 4).trans rfl
          have hcz21_5 : w17.cell? ⟨gb145, 5, none⟩ = some (.int .i64 0) := (blk_cell BK145.out 5).trans rfl
          have hfz21_0 := blk_frozen BK145.out 0
          have hfz21_1 := blk_frozen BK145.out 1
          have hfz21_2 := blk_frozen BK145.out 2
          have hfz21_3 := blk_frozen BK145.out 3
          have hfz21_4 := blk_frozen BK145.out 4
          have hfz21_5 := blk_frozen BK145.out 5
          go_wp2_with (first | (go_at_call 33; (with_reducible refine (collect_least.calls ((rd_T42 l1 x26_1).f0) ((rd_T42 l1 x26_1).f1) ((rd_T42 l1 x26_1).f2.f0) ((rd_T42 l1 x26_1).f2.f1) ((rd_T42 l1 x26_1).f3) ((rd_T42 l1 x26_1).f4) t146 _ A20.out).mono ?_); rintro e w22 ⟨rfl, hb⟩; have n0_ := Aside0.mk (Kd.R_below (by (with_reducible repeat (first | apply Kd.R_alloc | apply Kd.R_drewN | apply Kd.R_drew)); exact (Kd.R_mono (Kd.R_far (p := ⟨gb145, 5, none⟩) (Kd.R_far (p := ⟨gb145, 4, none⟩) (Kd.R_far (p := ⟨gb145, 3, none⟩) (Kd.R_far (p := ⟨gb145, 2, none⟩) (Kd.R_far (p := ⟨gb145, 1, none⟩) (Kd.R_far (p := ⟨gb145, 0, none⟩) (Kd.R_mono HO_7.out (fun k_ hk => (⟨hk, hk.2⟩ : _ ∧ k_ ≠ gb145))) (fun _ hk => hk.2) (.int .i64 ((rd_T42 l1 x26_1).f0))) (fun _ hk => hk.2) (.int .i64 ((rd_T42 l1 x26_1).f1))) (fun _ hk => hk.2) (.int .i64 ((rd_T42 l1 x26_1).f2.f0))) (fun _ hk => hk.2) (.int .i64 ((rd_T42 l1 x26_1).f2.f1))) (fun _ hk => hk.2) (.int .i64 ((rd_T42 l1 x26_1).f3))) (fun _ hk => hk.2) (.int .i64 ((rd_T42 l1 x26_1).f4))) (fun _ h_ => h_.1))) hb); have n1_ := Aside0.mk (blk_below (g := gb145) (o := .cells #[.int .i64 ((rd_T42 l1 x26_1).f0), .int .i64 ((rd_T42 l1 x26_1).f1), .int .i64 ((rd_T42 l1 x26_1).f2.f0), .int .i64 ((rd_T42 l1 x26_1).f2.f1), .int .i64 ((rd_T42 l1 x26_1).f3), .int .i64 ((rd_T42 l1 x26_1).f4)] 42 (0, 0)) (by (with_reducible repeat (first | refine blk_drewN ?_ _ | refine blk_drew ?_ | refine blk_alloc ?_ _)); refine blk_put (cs := #[.int .i64 ((rd_T42 l1 x26_1).f0), .int .i64 ((rd_T42 l1 x26_1).f1), .int .i64 ((rd_T42 l1 x26_1).f2.f0), .int .i64 ((rd_T42 l1 x26_1).f2.f1), .int .i64 ((rd_T42 l1 x26_1).f3), .int .i64 0]) ?_ 5 _ rfl; (with_reducible repeat (first | refine blk_drewN ?_ _ | refine blk_drew ?_ | refine blk_alloc ?_ _)); refine blk_put (cs := #[.int .i64 ((rd_T42 l1 x26_1).f0), .int .i64 ((rd_T42 l1 x26_1).f1), .int .i64 ((rd_T42 l1 x26_1).f2.f0), .int .i64 ((rd_T42 l1 x26_1).f2.f1), .int .i64 0, .int .i64 0]) ?_ 4 _ rfl; (with_reducible repeat (first | refine blk_drewN ?_ _ | refine blk_drew ?_ | refine blk_alloc ?_ _)); refine blk_put (cs := #[.int .i64 ((rd_T42 l1 x26_1).f0), .int .i64 ((rd_T42 l1 x26_1).f1), .int .i64 ((rd_T42 l1 x26_1).f2.f0), .int .i64 0, .int .i64 0, .int .i64 0]) ?_ 3 _ rfl; (with_reducible repeat (first | refine blk_drewN ?_ _ | refine blk_drew ?_ | refine blk_alloc ?_ _)); refine blk_put (cs := #[.int .i64 ((rd_T42 l1 x26_1).f0), .int .i64 ((rd_T42 l1 x26_1).f1), .int .i64 0, .int .i64 0, .int .i64 0, .int .i64 0]) ?_ 2 _ rfl; (with_reducible repeat (first | refine blk_drewN ?_ _ | refine blk_drew ?_ | refine blk_alloc ?_ _)); refine blk_put (cs := #[.int .i64 ((rd_T42 l1 x26_1).f0), .int .i64 0, .int .i64 0, .int .i64 0, .int .i64 0, .int .i64 0]) ?_ 1 _ rfl; (with_reducible repeat (first | refine blk_drewN ?_ _ | refine blk_drew ?_ | refine blk_alloc ?_ _)); refine blk_put (cs := #[.int .i64 0, .int .i64 0, .int .i64 0, .int .i64 0, .int .i64 0, .int .i64 0]) ?_ 0 _ rfl; (with_reducible repeat (first | refine blk_drewN ?_ _ | refine blk_drew ?_ | refine blk_alloc ?_ _)); exact BK145.out) hb); have n2_ := Aside0.mk (below_step (by repeat (first | (with_reducible first | exact HB.out | apply below_alloc | apply pw_below_drewN | apply below_drew1 | refine below_set ?_ GE145.out) | exact HB.out)) hb); clear HO_7; clear BK145; clear HB; have HO_7 := n0_; have BK145 := n1_; have HB := n2_; clear n0_ n1_ n2_; (try clear hb); (try clear hb2); (try clear hk); (try clear hi)))
          go_meet
          case rel => exact ⟨_, (decide (t146 < x8_1)), (by first | rfl | (simp; done) | (simp [*]; done)), H', ⟨by have := HK1.out; first | omega | exact Nat.le_refl _⟩, ⟨by (with_reducible repeat (first | apply Kd.R_alloc | apply Kd.R_drewN | apply Kd.R_drew)); exact Kd.R_mono HO_7.out (fun _ hk => hk.2)⟩, ⟨by (with_reducible repeat (first | refine blk_drewN ?_ _ | refine blk_drew ?_ | refine blk_alloc ?_ _)); exact BK145.out⟩, ⟨by repeat (first | (with_reducible first | exact HB.out | apply below_alloc | apply pw_below_drewN | apply below_drew1 | refine below_set ?_ GE145.out) | exact HB.out)⟩⟩
         ·rw [if_neg c19] at H
          have c19b0 : decide (0 < ((rd_T42 l1 x26_1).f4)) = false := decide_eq_false c19
          clear c19
          (first | rw [c19b0] | (simp only [i64_w, i32_w]; rw [c19b0]) | skip)
          have H' := Aside0.mk H
          clear H
          have hcz23_0 : w17.cell? ⟨gb145, 0, none⟩ = some (.int .i64 0) := (blk_cell BK145.out 0).trans rfl
          have hcz23_1 : w17.cell? ⟨gb145, 1, none⟩ = some (.int .i64 0) := (blk_cell BK145.out 1).trans rfl
          have hcz23_2 : w17.cell? ⟨gb145, 2, none⟩ = some (.int .i64 0) := (blk_cell BK145.out 2).trans rfl
          have hcz23_3 : w17.cell? ⟨gb145, 3, none⟩ = some (.int .i64 0) := (blk_cell BK145.out 3).trans rfl
          have hcz23_4 : w17.cell? ⟨gb145, 4, none⟩ = some (.int .i64 0) := (blk_cell BK145.out 4).trans rfl
          have hcz23_5 : w17.cell? ⟨gb145, 5, none⟩ = some (.int .i64 0) := (blk_cell BK145.out 5).trans rfl
          have hfz23_0 := blk_frozen BK145.out 0
          have hfz23_1 := blk_frozen BK145.out 1
          have hfz23_2 := blk_frozen BK145.out 2
          have hfz23_3 := blk_frozen BK145.out 3
          have hfz23_4 := blk_frozen BK145.out 4
          have hfz23_5 := blk_frozen BK145.out 5
          go_wp2
          go_meet
          case rel => exact ⟨_, (false), (by first | rfl | (simp; done) | (simp [*]; done)), H', ⟨by have := HK1.out; first | omega | exact Nat.le_refl _⟩, ⟨by (with_reducible repeat (first | apply Kd.R_alloc | apply Kd.R_drewN | apply Kd.R_drew)); exact Kd.R_mono (Kd.R_far (p := ⟨gb145, 5, none⟩) (Kd.R_far (p := ⟨gb145, 4, none⟩) (Kd.R_far (p := ⟨gb145, 3, none⟩) (Kd.R_far (p := ⟨gb145, 2, none⟩) (Kd.R_far (p := ⟨gb145, 1, none⟩) (Kd.R_far (p := ⟨gb145, 0, none⟩) (Kd.R_mono HO_7.out (fun k_ hk => (⟨hk, hk.2⟩ : _ ∧ k_ ≠ gb145))) (fun _ hk => hk.2) (.int .i64 ((rd_T42 l1 x26_1).f0))) (fun _ hk => hk.2) (.int .i64 ((rd_T42 l1 x26_1).f1))) (fun _ hk => hk.2) (.int .i64 ((rd_T42 l1 x26_1).f2.f0))) (fun _ hk => hk.2) (.int .i64 ((rd_T42 l1 x26_1).f2.f1))) (fun _ hk => hk.2) (.int .i64 ((rd_T42 l1 x26_1).f3))) (fun _ hk => hk.2) (.int .i64 ((rd_T42 l1 x26_1).f4))) (fun _ hk => hk.1.2)⟩, ⟨by (with_reducible repeat (first | refine blk_drewN ?_ _ | refine blk_drew ?_ | refine blk_alloc ?_ _)); refine blk_put (cs := #[.int .i64 ((rd_T42 l1 x26_1).f0), .int .i64 ((rd_T42 l1 x26_1).f1), .int .i64 ((rd_T42 l1 x26_1).f2.f0), .int .i64 ((rd_T42 l1 x26_1).f2.f1), .int .i64 ((rd_T42 l1 x26_1).f3), .int .i64 0]) ?_ 5 _ rfl; (with_reducible repeat (first | refine blk_drewN ?_ _ | refine blk_drew ?_ | refine blk_alloc ?_ _)); refine blk_put (cs := #[.int .i64 ((rd_T42 l1 x26_1).f0), .int .i64 ((rd_T42 l1 x26_1).f1), .int .i64 ((rd_T42 l1 x26_1).f2.f0), .int .i64 ((rd_T42 l1 x26_1).f2.f1), .int .i64 0, .int .i64 0]) ?_ 4 _ rfl; (with_reducible repeat (first | refine blk_drewN ?_ _ | refine blk_drew ?_ | refine blk_alloc ?_ _)); refine blk_put (cs := #[.int .i64 ((rd_T42 l1 x26_1).f0), .int .i64 ((rd_T42 l1 x26_1).f1), .int .i64 ((rd_T42 l1 x26_1).f2.f0), .int .i64 0, .int .i64 0, .int .i64 0]) ?_ 3 _ rfl; (with_reducible repeat (first | refine blk_drewN ?_ _ | refine blk_drew ?_ | refine blk_alloc ?_ _)); refine blk_put (cs := #[.int .i64 ((rd_T42 l1 x26_1).f0), .int .i64 ((rd_T42 l1 x26_1).f1), .int .i64 0, .int .i64 0, .int .i64 0, .int .i64 0]) ?_ 2 _ rfl; (with_reducible repeat (first | refine blk_drewN ?_ _ | refine blk_drew ?_ | refine blk_alloc ?_ _)); refine blk_put (cs := #[.int .i64 ((rd_T42 l1 x26_1).f0), .int .i64 0, .int .i64 0, .int .i64 0, .int .i64 0, .int .i64 0]) ?_ 1 _ rfl; (with_reducible repeat (first | refine blk_drewN ?_ _ | refine blk_drew ?_ | refine blk_alloc ?_ _)); refine blk_put (cs := #[.int .i64 0, .int .i64 0, .int .i64 0, .int .i64 0, .int .i64 0, .int .i64 0]) ?_ 0 _ rfl; (with_reducible repeat (first | refine blk_drewN ?_ _ | refine blk_drew ?_ | refine blk_alloc ?_ _)); exact BK145.out⟩, ⟨by repeat (first | (with_reducible first | exact HB.out | apply below_alloc | apply pw_below_drewN | apply below_drew1 | refine below_set ?_ GE145.out) | exact HB.out)⟩⟩
        case rest =>
         clear HC16
         try clear c1
         try clear p1
         try clear q1
         try clear hx1
         try clear c2
         try clear p2
         try clear c3
         try clear c4
         try clear c4b0
         try clear c4b1
         try clear p6
         try clear c10
         try clear c10b0
         try clear c11
         try clear c11b0
         try clear c12
         try clear c12b0
         try clear c13
         try clear c13b0
         try clear p14
         try clear q14
         try clear hx14
         try clear c15
         try clear c19
         try clear c19b0
         try clear c21
         try clear hcz15_0
         try clear hcz15_1
         try clear hcz15_2
         try clear hcz15_3
         try clear hcz15_4
         try clear hcz15_5
         try clear hcz18_0
         try clear hcz18_1
         try clear hcz18_2
         try clear hcz18_3
         try clear hcz18_4
         try clear hcz18_5
         try clear hcz21_0
         try clear hcz21_1
         try clear hcz21_2
         try clear hcz21_3
         try clear hcz21_4
         try clear hcz21_5
         try clear hcz23_0
         try clear hcz23_1
         try clear hcz23_2
         try clear hcz23_3
         try clear hcz23_4
         try clear hcz23_5
         try clear hfz15_0
         try clear hfz15_1
         try clear hfz15_2
         try clear hfz15_3
         try clear hfz15_4
         try clear hfz15_5
         try clear hfz18_0
         try clear hfz18_1
         try clear hfz18_2
         try clear hfz18_3
         try clear hfz18_4
         try clear hfz18_5
         try clear hfz21_0
         try clear hfz21_1
         try clear hfz21_2
         try clear hfz21_3
         try clear hfz21_4
         try clear hfz21_5
         try clear hfz23_0
         try clear hfz23_1
         try clear hfz23_2
         try clear hfz23_3
         try clear hfz23_4
         try clear hfz23_5
         try clear hx144_0
         try clear hx144_1
         try clear hx144_2
         try clear hx144_3
         try clear hx144_4
         try clear hx144_5
         try clear p144
         try clear p2
         try clear q144
         obtain ⟨kq, x42_15, rfl, HA, HJ15, HO_7, BK145, HB⟩ := hcut
         cases kq with
         | zero => exact absurd HA.out (by simp [collect_Collector_Take.j1])
         | succ kj15 =>
          have H := HA.out
          clear HA
          simp only [collect_Collector_Take.j1] at H
          have HC24 := Aside0.mk H
          clear H
          go_upto_if 42 with (fail)
          go_cut [] (fun wc => ∃ (kq : Nat) (x146000_23 : Int) (x146001_23 : Int) (x146002_23 : Int) (x146003_23 : Int) (x146004_23 : Int) (x146005_23 : Int), Aside0 (collect_Collector_Take.j2 kq x7_1 x8_1 x9_1 l1 (l1.length : Int) x26_1 x146000_23 x146001_23 x146002_23 x146003_23 x146004_23 x146005_23 = some (r1, r2, r3)) ∧ Aside0 (kq ≤ kj15) ∧ Aside0 (Kd.R k42 42 wc w.heap.size (fun k_ => k_ ≠ gb145) u7 x7_1) ∧ Aside0 (wc.heap[gb145]? = some (.cells #[.int .i64 x146000_23, .int .i64 x146001_23, .int .i64 x146002_23, .int .i64 x146003_23, .int .i64 x146004_23, .int .i64 x146005_23] 42 (0, 0))) ∧ Aside0 (Below w.heap.size w wc))
          case first =>
           have H := HC24.out
           clear HC24
           by_cases c25 : x42_15 = true
           ·subst c25
            have H1 : ((collect_gap.f x8_1 ((rd_T42 l1 x26_1).f0)).bind fun bt147 => (collect_Collector_Take.j2 kj15 x7_1 x8_1 x9_1 l1 (l1.length : Int) x26_1 bt147.1 bt147.2.1 bt147.2.2.1 bt147.2.2.2.1 bt147.2.2.2.2.1 bt147.2.2.2.2.2)) = some (r1, r2, r3) := by rw [if_pos rfl] at H; exact H
            clear H
            have H := H1
            clear H1
            replace H := Option.bind_eq_some_iff.mp H
            obtain ⟨⟨t147, t148, t149, t150, t151, t152⟩, A260, H⟩ := H
            replace H : (collect_Collector_Take.j2 kj15 x7_1 x8_1 x9_1 l1 (l1.length : Int) x26_1 t147 t148 t149 t150 t151 t152) = some (r1, r2, r3) := H
            have A26 := Aside0.mk A260
            clear A260
            have H' := Aside0.mk H
            clear H
            have hcz27_0 : wc.cell? ⟨gb145, 0, none⟩ = some (.int .i64 ((rd_T42 l1 x26_1).f0)) := (blk_cell BK145.out 0).trans rfl
            have hcz27_1 : wc.cell? ⟨gb145, 1, none⟩ = some (.int .i64 ((rd_T42 l1 x26_1).f1)) := (blk_cell BK145.out 1).trans rfl
            have hcz27_2 : wc.cell? ⟨gb145, 2, none⟩ = some (.int .i64 ((rd_T42 l1 x26_1).f2.f0)) := (blk_cell BK145.out 2).trans rfl
            have hcz27_3 : wc.cell? ⟨gb145, 3, none⟩ = some (.int .i64 ((rd_T42 l1 x26_1).f2.f1)) := (blk_cell BK145.out 3).trans rfl
            have hcz27_4 : wc.cell? ⟨gb145, 4, none⟩ = some (.int .i64 ((rd_T42 l1 x26_1).f3)) := (blk_cell BK145.out 4).trans rfl
            have hcz27_5 : wc.cell? ⟨gb145, 5, none⟩ = some (.int .i64 ((rd_T42 l1 x26_1).f4)) := (blk_cell BK145.out 5).trans rfl
            have hfz27_0 := blk_frozen BK145.out 0
            have hfz27_1 := blk_frozen BK145.out 1
            have hfz27_2 := blk_frozen BK145.out 2
            have hfz27_3 := blk_frozen BK145.out 3
            have hfz27_4 := blk_frozen BK145.out 4
            have hfz27_5 := blk_frozen BK145.out 5
            go_wp2_with (first | ((with_reducible refine gate_callee (f := 34) rfl ?_); refine goesL_ (some 46) rfl rfl Try.func34 (by kernel_rfl) rfl #[.int .i64 x8_1, .int .i64 ((rd_T42 l1 x26_1).f0)] rfl (by (try simp only [List.map_toArray, List.map_cons, List.map_nil]); first | done | rfl | (simp only [List.length_drop, List.length_take]; rfl)) ?_; (with_reducible refine (collect_gap.calls x8_1 ((rd_T42 l1 x26_1).f0) t147 t148 t149 t150 t151 t152 _ A26.out).mono ?_); rintro e w28 ⟨rfl, hb⟩; refine ⟨_, rfl, ?_⟩; have n0_ := Aside0.mk (Kd.R_below (by (with_reducible repeat (first | apply Kd.R_alloc | apply Kd.R_drewN | apply Kd.R_drew)); exact HO_7.out) hb); have n1_ := Aside0.mk (blk_below (g := gb145) (o := .cells #[.int .i64 ((rd_T42 l1 x26_1).f0), .int .i64 ((rd_T42 l1 x26_1).f1), .int .i64 ((rd_T42 l1 x26_1).f2.f0), .int .i64 ((rd_T42 l1 x26_1).f2.f1), .int .i64 ((rd_T42 l1 x26_1).f3), .int .i64 ((rd_T42 l1 x26_1).f4)] 42 (0, 0)) (by (with_reducible repeat (first | refine blk_drewN ?_ _ | refine blk_drew ?_ | refine blk_alloc ?_ _)); exact BK145.out) hb); have n2_ := Aside0.mk (below_step (by repeat (first | (with_reducible first | exact HB.out | apply below_alloc | apply pw_below_drewN | apply below_drew1 | refine below_set ?_ GE145.out) | exact HB.out)) hb); clear HO_7; clear BK145; clear HB; have HO_7 := n0_; have BK145 := n1_; have HB := n2_; clear n0_ n1_ n2_; (try clear hb); (try clear hb2); (try clear hk); (try clear hi); have hcz29_0 : w28.cell? ⟨gb145, 0, none⟩ = some (.int .i64 ((rd_T42 l1 x26_1).f0)) := (blk_cell BK145.out 0).trans rfl; have hcz29_1 : w28.cell? ⟨gb145, 1, none⟩ = some (.int .i64 ((rd_T42 l1 x26_1).f1)) := (blk_cell BK145.out 1).trans rfl; have hcz29_2 : w28.cell? ⟨gb145, 2, none⟩ = some (.int .i64 ((rd_T42 l1 x26_1).f2.f0)) := (blk_cell BK145.out 2).trans rfl; have hcz29_3 : w28.cell? ⟨gb145, 3, none⟩ = some (.int .i64 ((rd_T42 l1 x26_1).f2.f1)) := (blk_cell BK145.out 3).trans rfl; have hcz29_4 : w28.cell? ⟨gb145, 4, none⟩ = some (.int .i64 ((rd_T42 l1 x26_1).f3)) := (blk_cell BK145.out 4).trans rfl; have hcz29_5 : w28.cell? ⟨gb145, 5, none⟩ = some (.int .i64 ((rd_T42 l1 x26_1).f4)) := (blk_cell BK145.out 5).trans rfl; have hfz29_0 := blk_frozen BK145.out 0; have hfz29_1 := blk_frozen BK145.out 1; have hfz29_2 := blk_frozen BK145.out 2; have hfz29_3 := blk_frozen BK145.out 3; have hfz29_4 := blk_frozen BK145.out 4; have hfz29_5 := blk_frozen BK145.out 5))
            go_meet
            case rel => exact ⟨_, (t147), (t148), (t149), (t150), (t151), (t152), H', ⟨by have := HK1.out; have := HJ15.out; first | omega | exact Nat.le_refl _⟩, ⟨by (with_reducible repeat (first | apply Kd.R_alloc | apply Kd.R_drewN | apply Kd.R_drew)); exact Kd.R_mono (Kd.R_far (p := ⟨gb145, 5, none⟩) (Kd.R_far (p := ⟨gb145, 4, none⟩) (Kd.R_far (p := ⟨gb145, 3, none⟩) (Kd.R_far (p := ⟨gb145, 2, none⟩) (Kd.R_far (p := ⟨gb145, 1, none⟩) (Kd.R_far (p := ⟨gb145, 0, none⟩) (Kd.R_mono HO_7.out (fun k_ hk => (⟨hk, hk⟩ : _ ∧ k_ ≠ gb145))) (fun _ hk => hk.2) (.int .i64 t147)) (fun _ hk => hk.2) (.int .i64 t148)) (fun _ hk => hk.2) (.int .i64 t149)) (fun _ hk => hk.2) (.int .i64 t150)) (fun _ hk => hk.2) (.int .i64 t151)) (fun _ hk => hk.2) (.int .i64 t152)) (fun _ hk => hk.1)⟩, ⟨by (with_reducible repeat (first | refine blk_drewN ?_ _ | refine blk_drew ?_ | refine blk_alloc ?_ _)); refine blk_put (cs := #[.int .i64 t147, .int .i64 t148, .int .i64 t149, .int .i64 t150, .int .i64 t151, .int .i64 ((rd_T42 l1 x26_1).f4)]) ?_ 5 _ rfl; (with_reducible repeat (first | refine blk_drewN ?_ _ | refine blk_drew ?_ | refine blk_alloc ?_ _)); refine blk_put (cs := #[.int .i64 t147, .int .i64 t148, .int .i64 t149, .int .i64 t150, .int .i64 ((rd_T42 l1 x26_1).f3), .int .i64 ((rd_T42 l1 x26_1).f4)]) ?_ 4 _ rfl; (with_reducible repeat (first | refine blk_drewN ?_ _ | refine blk_drew ?_ | refine blk_alloc ?_ _)); refine blk_put (cs := #[.int .i64 t147, .int .i64 t148, .int .i64 t149, .int .i64 ((rd_T42 l1 x26_1).f2.f1), .int .i64 ((rd_T42 l1 x26_1).f3), .int .i64 ((rd_T42 l1 x26_1).f4)]) ?_ 3 _ rfl; (with_reducible repeat (first | refine blk_drewN ?_ _ | refine blk_drew ?_ | refine blk_alloc ?_ _)); refine blk_put (cs := #[.int .i64 t147, .int .i64 t148, .int .i64 ((rd_T42 l1 x26_1).f2.f0), .int .i64 ((rd_T42 l1 x26_1).f2.f1), .int .i64 ((rd_T42 l1 x26_1).f3), .int .i64 ((rd_T42 l1 x26_1).f4)]) ?_ 2 _ rfl; (with_reducible repeat (first | refine blk_drewN ?_ _ | refine blk_drew ?_ | refine blk_alloc ?_ _)); refine blk_put (cs := #[.int .i64 t147, .int .i64 ((rd_T42 l1 x26_1).f1), .int .i64 ((rd_T42 l1 x26_1).f2.f0), .int .i64 ((rd_T42 l1 x26_1).f2.f1), .int .i64 ((rd_T42 l1 x26_1).f3), .int .i64 ((rd_T42 l1 x26_1).f4)]) ?_ 1 _ rfl; (with_reducible repeat (first | refine blk_drewN ?_ _ | refine blk_drew ?_ | refine blk_alloc ?_ _)); refine blk_put (cs := #[.int .i64 ((rd_T42 l1 x26_1).f0), .int .i64 ((rd_T42 l1 x26_1).f1), .int .i64 ((rd_T42 l1 x26_1).f2.f0), .int .i64 ((rd_T42 l1 x26_1).f2.f1), .int .i64 ((rd_T42 l1 x26_1).f3), .int .i64 ((rd_T42 l1 x26_1).f4)]) ?_ 0 _ rfl; (with_reducible repeat (first | refine blk_drewN ?_ _ | refine blk_drew ?_ | refine blk_alloc ?_ _)); exact BK145.out⟩, ⟨by repeat (first | (with_reducible first | exact HB.out | apply below_alloc | apply pw_below_drewN | apply below_drew1 | refine below_set ?_ GE145.out) | exact HB.out)⟩⟩
           ·replace c25 := Bool.eq_false_iff.mpr c25
            subst c25
            have H1 : (collect_Collector_Take.j2 kj15 x7_1 x8_1 x9_1 l1 (l1.length : Int) x26_1 ((rd_T42 l1 x26_1).f0) ((rd_T42 l1 x26_1).f1) ((rd_T42 l1 x26_1).f2.f0) ((rd_T42 l1 x26_1).f2.f1) ((rd_T42 l1 x26_1).f3) ((rd_T42 l1 x26_1).f4)) = some (r1, r2, r3) := by rw [if_neg (show ¬ (false = true) by decide)] at H; exact H
            clear H
            have H := H1
            clear H1
            have H' := Aside0.mk H
            clear H
            go_wp2
            go_meet
            case rel => exact ⟨_, (((rd_T42 l1 x26_1).f0)), (((rd_T42 l1 x26_1).f1)), (((rd_T42 l1 x26_1).f2.f0)), (((rd_T42 l1 x26_1).f2.f1)), (((rd_T42 l1 x26_1).f3)), (((rd_T42 l1 x26_1).f4)), H', ⟨by have := HK1.out; have := HJ15.out; first | omega | exact Nat.le_refl _⟩, ⟨by (with_reducible repeat (first | apply Kd.R_alloc | apply Kd.R_drewN | apply Kd.R_drew)); exact HO_7.out⟩, ⟨by (with_reducible repeat (first | refine blk_drewN ?_ _ | refine blk_drew ?_ | refine blk_alloc ?_ _)); exact BK145.out⟩, ⟨by repeat (first | (with_reducible first | exact HB.out | apply below_alloc | apply pw_below_drewN | apply below_drew1 | refine below_set ?_ GE145.out) | exact HB.out)⟩⟩
          case rest =>
           clear HC24
           try clear c1
           try clear p1
           try clear q1
           try clear hx1
           try clear c2
           try clear p2
           try clear c3
           try clear c4
           try clear c4b0
           try clear c4b1
           try clear p6
           try clear c10
           try clear c10b0
           try clear c11
           try clear c11b0
           try clear c12
           try clear c12b0
           try clear c13
           try clear c13b0
           try clear p14
           try clear q14
           try clear hx14
           try clear c15
           try clear c19
           try clear c19b0
           try clear c21
           try clear c25
           try clear hcz15_0
           try clear hcz15_1
           try clear hcz15_2
           try clear hcz15_3
           try clear hcz15_4
           try clear hcz15_5
           try clear hcz18_0
           try clear hcz18_1
           try clear hcz18_2
           try clear hcz18_3
           try clear hcz18_4
           try clear hcz18_5
           try clear hcz21_0
           try clear hcz21_1
           try clear hcz21_2
           try clear hcz21_3
           try clear hcz21_4
           try clear hcz21_5
           try clear hcz23_0
           try clear hcz23_1
           try clear hcz23_2
           try clear hcz23_3
           try clear hcz23_4
           try clear hcz23_5
           try clear hcz27_0
           try clear hcz27_1
           try clear hcz27_2
           try clear hcz27_3
           try clear hcz27_4
           try clear hcz27_5
           try clear hcz29_0
           try clear hcz29_1
           try clear hcz29_2
           try clear hcz29_3
           try clear hcz29_4
           try clear hcz29_5
           try clear hfz15_0
           try clear hfz15_1
           try clear hfz15_2
           try clear hfz15_3
           try clear hfz15_4
           try clear hfz15_5
           try clear hfz18_0
           try clear hfz18_1
           try clear hfz18_2
           try clear hfz18_3
           try clear hfz18_4
           try clear hfz18_5
           try clear hfz21_0
           try clear hfz21_1
           try clear hfz21_2
           try clear hfz21_3
           try clear hfz21_4
           try clear hfz21_5
           try clear hfz23_0
           try clear hfz23_1
           try clear hfz23_2
           try clear hfz23_3
           try clear hfz23_4
           try clear hfz23_5
           try clear hfz27_0
           try clear hfz27_1
           try clear hfz27_2
           try clear hfz27_3
           try clear hfz27_4
           try clear hfz27_5
           try clear hfz29_0
           try clear hfz29_1
           try clear hfz29_2
           try clear hfz29_3
           try clear hfz29_4
           try clear hfz29_5
           try clear hx144_0
           try clear hx144_1
           try clear hx144_2
           try clear hx144_3
           try clear hx144_4
           try clear hx144_5
           try clear p1
           try clear p14
           try clear p144
           try clear p2
           try clear p6
           try clear q1
           try clear q14
           try clear q144
           obtain ⟨kq, x146000_23, x146001_23, x146002_23, x146003_23, x146004_23, x146005_23, HA, HJ23, HO_7, BK145, HB⟩ := hcut
           cases kq with
           | zero => exact absurd HA.out (by simp [collect_Collector_Take.j2])
           | succ kj23 =>
            have H := HA.out
            clear HA
            simp only [collect_Collector_Take.j2] at H
            replace H := Option.bind_eq_some_iff.mp H
            obtain ⟨t153, A300, H⟩ := H
            replace H : (if t153 > x8_1 then ((collect_least.f x146000_23 x146001_23 x146002_23 x146003_23 x146004_23 x146005_23).bind fun t154 => ((collect_gap.f x8_1 (wrap64 (t154 - 1))).bind fun bt155 => ((collect_put.f x7_1 bt155.1 bt155.2.1 bt155.2.2.1 bt155.2.2.2.1 bt155.2.2.2.2.1 bt155.2.2.2.2.2).bind fun t161 => (if x146005_23 = 0 then ((collect_put.f t161 x146000_23 x146001_23 x146002_23 x146003_23 x146004_23 x146005_23).bind fun t164 => (collect_Collector_Take.l0 kj23 t164 (wrap64 (x146000_23 + 1)) (wrap64 (x9_1 + 1)) l1 (l1.length : Int) (wrap64 (x26_1 + 1)))) else ((collect_put.f t161 x146000_23 x146001_23 x146002_23 x146003_23 x146004_23 x146005_23).bind fun t167 => (collect_Collector_Take.l0 kj23 t167 (wrap64 (x146000_23 + 1)) x9_1 l1 (l1.length : Int) (wrap64 (x26_1 + 1)))))))) else (if x146005_23 = 0 then ((collect_put.f x7_1 x146000_23 x146001_23 x146002_23 x146003_23 x146004_23 x146005_23).bind fun t170 => (collect_Collector_Take.l0 kj23 t170 (wrap64 (x146000_23 + 1)) (wrap64 (x9_1 + 1)) l1 (l1.length : Int) (wrap64 (x26_1 + 1)))) else ((collect_put.f x7_1 x146000_23 x146001_23 x146002_23 x146003_23 x146004_23 x146005_23).bind fun t173 => (collect_Collector_Take.l0 kj23 t173 (wrap64 (x146000_23 + 1)) x9_1 l1 (l1.length : Int) (wrap64 (x26_1 + 1)))))) = some (r1, r2, r3) := H
            have A30 := Aside0.mk A300
            clear A300
            by_cases c31 : t153 > x8_1
            ·rw [if_pos c31] at H
             have c31b0 : decide (x8_1 < t153) = true := decide_eq_true c31
             clear c31
             replace H := Option.bind_eq_some_iff.mp H
             obtain ⟨t154, A320, H⟩ := H
             replace H : ((collect_gap.f x8_1 (wrap64 (t154 - 1))).bind fun bt155 => ((collect_put.f x7_1 bt155.1 bt155.2.1 bt155.2.2.1 bt155.2.2.2.1 bt155.2.2.2.2.1 bt155.2.2.2.2.2).bind fun t161 => (if x146005_23 = 0 then ((collect_put.f t161 x146000_23 x146001_23 x146002_23 x146003_23 x146004_23 x146005_23).bind fun t164 => (collect_Collector_Take.l0 kj23 t164 (wrap64 (x146000_23 + 1)) (wrap64 (x9_1 + 1)) l1 (l1.length : Int) (wrap64 (x26_1 + 1)))) else ((collect_put.f t161 x146000_23 x146001_23 x146002_23 x146003_23 x146004_23 x146005_23).bind fun t167 => (collect_Collector_Take.l0 kj23 t167 (wrap64 (x146000_23 + 1)) x9_1 l1 (l1.length : Int) (wrap64 (x26_1 + 1))))))) = some (r1, r2, r3) := H
             have A32 := Aside0.mk A320
             clear A320
             replace H := Option.bind_eq_some_iff.mp H
             obtain ⟨⟨t155, t156, t157, t158, t159, t160⟩, A330, H⟩ := H
             replace H : ((collect_put.f x7_1 t155 t156 t157 t158 t159 t160).bind fun t161 => (if x146005_23 = 0 then ((collect_put.f t161 x146000_23 x146001_23 x146002_23 x146003_23 x146004_23 x146005_23).bind fun t164 => (collect_Collector_Take.l0 kj23 t164 (wrap64 (x146000_23 + 1)) (wrap64 (x9_1 + 1)) l1 (l1.length : Int) (wrap64 (x26_1 + 1)))) else ((collect_put.f t161 x146000_23 x146001_23 x146002_23 x146003_23 x146004_23 x146005_23).bind fun t167 => (collect_Collector_Take.l0 kj23 t167 (wrap64 (x146000_23 + 1)) x9_1 l1 (l1.length : Int) (wrap64 (x26_1 + 1)))))) = some (r1, r2, r3) := H
             have A33 := Aside0.mk A330
             clear A330
             replace H := Option.bind_eq_some_iff.mp H
             obtain ⟨t161, A340, H⟩ := H
             replace H : (if x146005_23 = 0 then ((collect_put.f t161 x146000_23 x146001_23 x146002_23 x146003_23 x146004_23 x146005_23).bind fun t164 => (collect_Collector_Take.l0 kj23 t164 (wrap64 (x146000_23 + 1)) (wrap64 (x9_1 + 1)) l1 (l1.length : Int) (wrap64 (x26_1 + 1)))) else ((collect_put.f t161 x146000_23 x146001_23 x146002_23 x146003_23 x146004_23 x146005_23).bind fun t167 => (collect_Collector_Take.l0 kj23 t167 (wrap64 (x146000_23 + 1)) x9_1 l1 (l1.length : Int) (wrap64 (x26_1 + 1))))) = some (r1, r2, r3) := H
             have A34 := Aside0.mk A340
             clear A340
             by_cases c35 : x146005_23 = 0
             ·rw [if_pos c35] at H
              have c35b0 : (x146005_23 == 0) = true := beq_iff_eq.mpr c35
              have c35b1 : (x146005_23 != 0) = false := bne_eq_false_iff_eq.mpr c35
              clear c35
              replace H := Option.bind_eq_some_iff.mp H
              obtain ⟨t164, A360, H⟩ := H
              replace H : (collect_Collector_Take.l0 kj23 t164 (wrap64 (x146000_23 + 1)) (wrap64 (x9_1 + 1)) l1 (l1.length : Int) (wrap64 (x26_1 + 1))) = some (r1, r2, r3) := H
              have A36 := Aside0.mk A360
              clear A360
              have H' := Aside0.mk H
              clear H
              have hcz37_0 : wc.cell? ⟨gb145, 0, none⟩ = some (.int .i64 x146000_23) := (blk_cell BK145.out 0).trans rfl
              have hcz37_1 : wc.cell? ⟨gb145, 1, none⟩ = some (.int .i64 x146001_23) := (blk_cell BK145.out 1).trans rfl
              have hcz37_2 : wc.cell? ⟨gb145, 2, none⟩ = some (.int .i64 x146002_23) := (blk_cell BK145.out 2).trans rfl
              have hcz37_3 : wc.cell? ⟨gb145, 3, none⟩ = some (.int .i64 x146003_23) := (blk_cell BK145.out 3).trans rfl
              have hcz37_4 : wc.cell? ⟨gb145, 4, none⟩ = some (.int .i64 x146004_23) := (blk_cell BK145.out 4).trans rfl
              have hcz37_5 : wc.cell? ⟨gb145, 5, none⟩ = some (.int .i64 x146005_23) := (blk_cell BK145.out 5).trans rfl
              have hfz37_0 := blk_frozen BK145.out 0
              have hfz37_1 := blk_frozen BK145.out 1
              have hfz37_2 := blk_frozen BK145.out 2
              have hfz37_3 := blk_frozen BK145.out 3
              have hfz37_4 := blk_frozen BK145.out 4
              have hfz37_5 := blk_frozen BK145.out 5
              go_wp2_with (first | ((with_reducible refine gate_callee (f := 33) rfl ?_); refine goesL_ (some 48) rfl rfl Try.func33 (by kernel_rfl) rfl #[.agg #[.int .i64 x146000_23, .int .i64 x146001_23, .int .i64 x146002_23, .int .i64 x146003_23, .int .i64 x146004_23, .int .i64 x146005_23]] rfl (by (try simp only [List.map_toArray, List.map_cons, List.map_nil]); first | done | rfl | (simp only [List.length_drop, List.length_take]; rfl)) ?_; (with_reducible refine (collect_least.calls x146000_23 x146001_23 x146002_23 x146003_23 x146004_23 x146005_23 t153 _ A30.out).mono ?_); rintro e w38 ⟨rfl, hb⟩; refine ⟨_, rfl, ?_⟩; have n0_ := Aside0.mk (Kd.R_below (by (with_reducible repeat (first | apply Kd.R_alloc | apply Kd.R_drewN | apply Kd.R_drew)); exact HO_7.out) hb); have n1_ := Aside0.mk (blk_below (g := gb145) (o := .cells #[.int .i64 x146000_23, .int .i64 x146001_23, .int .i64 x146002_23, .int .i64 x146003_23, .int .i64 x146004_23, .int .i64 x146005_23] 42 (0, 0)) (by (with_reducible repeat (first | refine blk_drewN ?_ _ | refine blk_drew ?_ | refine blk_alloc ?_ _)); exact BK145.out) hb); have n2_ := Aside0.mk (below_step (by repeat (first | (with_reducible first | exact HB.out | apply below_alloc | apply pw_below_drewN | apply below_drew1 | refine below_set ?_ GE145.out) | exact HB.out)) hb); clear HO_7; clear BK145; clear HB; have HO_7 := n0_; have BK145 := n1_; have HB := n2_; clear n0_ n1_ n2_; (try clear hb); (try clear hb2); (try clear hk); (try clear hi); have hcz39_0 : w38.cell? ⟨gb145, 0, none⟩ = some (.int .i64 x146000_23) := (blk_cell BK145.out 0).trans rfl; have hcz39_1 : w38.cell? ⟨gb145, 1, none⟩ = some (.int .i64 x146001_23) := (blk_cell BK145.out 1).trans rfl; have hcz39_2 : w38.cell? ⟨gb145, 2, none⟩ = some (.int .i64 x146002_23) := (blk_cell BK145.out 2).trans rfl; have hcz39_3 : w38.cell? ⟨gb145, 3, none⟩ = some (.int .i64 x146003_23) := (blk_cell BK145.out 3).trans rfl; have hcz39_4 : w38.cell? ⟨gb145, 4, none⟩ = some (.int .i64 x146004_23) := (blk_cell BK145.out 4).trans rfl; have hcz39_5 : w38.cell? ⟨gb145, 5, none⟩ = some (.int .i64 x146005_23) := (blk_cell BK145.out 5).trans rfl; have hfz39_0 := blk_frozen BK145.out 0; have hfz39_1 := blk_frozen BK145.out 1; have hfz39_2 := blk_frozen BK145.out 2; have hfz39_3 := blk_frozen BK145.out 3; have hfz39_4 := blk_frozen BK145.out 4; have hfz39_5 := blk_frozen BK145.out 5) | ((with_reducible refine gate_callee (f := 33) rfl ?_); refine goesL_ (some 54) rfl rfl Try.func33 (by kernel_rfl) rfl #[.agg #[.int .i64 x146000_23, .int .i64 x146001_23, .int .i64 x146002_23, .int .i64 x146003_23, .int .i64 x146004_23, .int .i64 x146005_23]] rfl (by (try simp only [List.map_toArray, List.map_cons, List.map_nil]); first | done | rfl | (simp only [List.length_drop, List.length_take]; rfl)) ?_; (with_reducible refine (collect_least.calls x146000_23 x146001_23 x146002_23 x146003_23 x146004_23 x146005_23 t154 _ A32.out).mono ?_); rintro e w40 ⟨rfl, hb⟩; refine ⟨_, rfl, ?_⟩; have n0_ := Aside0.mk (Kd.R_below (by (with_reducible repeat (first | apply Kd.R_alloc | apply Kd.R_drewN | apply Kd.R_drew)); exact HO_7.out) hb); have n1_ := Aside0.mk (blk_below (g := gb145) (o := .cells #[.int .i64 x146000_23, .int .i64 x146001_23, .int .i64 x146002_23, .int .i64 x146003_23, .int .i64 x146004_23, .int .i64 x146005_23] 42 (0, 0)) (by (with_reducible repeat (first | refine blk_drewN ?_ _ | refine blk_drew ?_ | refine blk_alloc ?_ _)); exact BK145.out) hb); have n2_ := Aside0.mk (below_step (by repeat (first | (with_reducible first | exact HB.out | apply below_alloc | apply pw_below_drewN | apply below_drew1 | refine below_set ?_ GE145.out) | exact HB.out)) hb); clear HO_7; clear BK145; clear HB; have HO_7 := n0_; have BK145 := n1_; have HB := n2_; clear n0_ n1_ n2_; (try clear hb); (try clear hb2); (try clear hk); (try clear hi)) | ((with_reducible refine gate_callee (f := 34) rfl ?_); refine goesL_ (some 56) rfl rfl Try.func34 (by kernel_rfl) rfl #[.int .i64 x8_1, .int .i64 (wrap64 (t154 - 1))] rfl (by (try simp only [List.map_toArray, List.map_cons, List.map_nil]); first | done | rfl | (simp only [List.length_drop, List.length_take]; rfl)) ?_; (with_reducible refine (collect_gap.calls x8_1 (wrap64 (t154 - 1)) t155 t156 t157 t158 t159 t160 _ A33.out).mono ?_); rintro e w41 ⟨rfl, hb⟩; refine ⟨_, rfl, ?_⟩; have n0_ := Aside0.mk (Kd.R_below (by (with_reducible repeat (first | apply Kd.R_alloc | apply Kd.R_drewN | apply Kd.R_drew)); exact HO_7.out) hb); have n1_ := Aside0.mk (blk_below (g := gb145) (o := .cells #[.int .i64 x146000_23, .int .i64 x146001_23, .int .i64 x146002_23, .int .i64 x146003_23, .int .i64 x146004_23, .int .i64 x146005_23] 42 (0, 0)) (by (with_reducible repeat (first | refine blk_drewN ?_ _ | refine blk_drew ?_ | refine blk_alloc ?_ _)); exact BK145.out) hb); have n2_ := Aside0.mk (below_step (by repeat (first | (with_reducible first | exact HB.out | apply below_alloc | apply pw_below_drewN | apply below_drew1 | refine below_set ?_ GE145.out) | exact HB.out)) hb); clear HO_7; clear BK145; clear HB; have HO_7 := n0_; have BK145 := n1_; have HB := n2_; clear n0_ n1_ n2_; (try clear hb); (try clear hb2); (try clear hk); (try clear hi); obtain ⟨Ao42, co42, eo42⟩ := Kd.R_slice HO_7.out; subst eo42) | ((with_reducible refine gate_callee (f := 35) rfl ?_); refine goesL_ (some 57) rfl rfl Try.func35 (by kernel_rfl) rfl #[.slice Ao42 x7_1.length co42, .agg #[.int .i64 t155, .int .i64 t156, .int .i64 t157, .int .i64 t158, .int .i64 t159, .int .i64 t160]] rfl (by (try simp only [List.map_toArray, List.map_cons, List.map_nil]); first | done | rfl | (simp only [List.length_drop, List.length_take]; rfl)) ?_; (with_reducible refine (collect_put.calls (fun k_ => some k_ = (.slice Ao42 x7_1.length co42 : Value).ownBlock) (.slice Ao42 x7_1.length co42) x7_1 t155 t156 t157 t158 t159 t160 t161 w _ ?side1 ?side2 A34.out).mono ?_); (case side1 => repeat (first | (with_reducible first | exact HB.out | apply below_alloc | apply pw_below_drewN | apply below_drew1 | refine below_set ?_ GE145.out) | exact HB.out)); (case side2 => exact Kd.R_tight rfl HO_7.out); rintro e w43 ⟨v162, rfl, ho0, hb, hkp⟩; refine ⟨_, rfl, ?_⟩; have n0_ := Aside0.mk (blk_kept (by (with_reducible repeat (first | refine blk_drewN ?_ _ | refine blk_drew ?_ | refine blk_alloc ?_ _)); exact BK145.out) hkp (fun hs_ => (fun e_ => (Kd.R_away HO_7.out (fun _ hk => hk)) e_) hs_)); have n1_ := Aside0.mk (Kd.R_mono (ok' := fun k_ => k_ ≠ gb145) ho0 (fun k_ hk_ => Or.elim hk_ (fun hs_ => fun e_ => (Kd.R_away HO_7.out (fun _ hk => hk)) (by rw [← e_]; exact hs_)) (fun hn_ => (Kd.freshB (g := gb145) (o := .cells #[.int .i64 x146000_23, .int .i64 x146001_23, .int .i64 x146002_23, .int .i64 x146003_23, .int .i64 x146004_23, .int .i64 x146005_23] 42 (0, 0)) (by (with_reducible repeat (first | refine blk_drewN ?_ _ | refine blk_drew ?_ | refine blk_alloc ?_ _)); exact BK145.out) k_ hn_)))); have n2_ := Aside0.mk (hb); clear BK145; clear HB; clear HO_7; have BK145 := n0_; have HO163 := n1_; have HB := n2_; clear n0_ n1_ n2_; (try clear hb); (try clear hkp); (try clear ho0); have hcz44_0 : w43.cell? ⟨gb145, 0, none⟩ = some (.int .i64 x146000_23) := (blk_cell BK145.out 0).trans rfl; have hcz44_1 : w43.cell? ⟨gb145, 1, none⟩ = some (.int .i64 x146001_23) := (blk_cell BK145.out 1).trans rfl; have hcz44_2 : w43.cell? ⟨gb145, 2, none⟩ = some (.int .i64 x146002_23) := (blk_cell BK145.out 2).trans rfl; have hcz44_3 : w43.cell? ⟨gb145, 3, none⟩ = some (.int .i64 x146003_23) := (blk_cell BK145.out 3).trans rfl; have hcz44_4 : w43.cell? ⟨gb145, 4, none⟩ = some (.int .i64 x146004_23) := (blk_cell BK145.out 4).trans rfl; have hcz44_5 : w43.cell? ⟨gb145, 5, none⟩ = some (.int .i64 x146005_23) := (blk_cell BK145.out 5).trans rfl; have hfz44_0 := blk_frozen BK145.out 0; have hfz44_1 := blk_frozen BK145.out 1; have hfz44_2 := blk_frozen BK145.out 2; have hfz44_3 := blk_frozen BK145.out 3; have hfz44_4 := blk_frozen BK145.out 4; have hfz44_5 := blk_frozen BK145.out 5; obtain ⟨Ao45, co45, eo45⟩ := Kd.R_slice HO163.out; subst eo45) | ((with_reducible refine gate_callee (f := 35) rfl ?_); refine goesL_ (some 65) rfl rfl Try.func35 (by kernel_rfl) rfl #[.slice Ao45 t161.length co45, .agg #[.int .i64 x146000_23, .int .i64 x146001_23, .int .i64 x146002_23, .int .i64 x146003_23, .int .i64 x146004_23, .int .i64 x146005_23]] rfl (by (try simp only [List.map_toArray, List.map_cons, List.map_nil]); first | done | rfl | (simp only [List.length_drop, List.length_take]; rfl)) ?_; (with_reducible refine (collect_put.calls (fun k_ => some k_ = (.slice Ao45 t161.length co45 : Value).ownBlock) (.slice Ao45 t161.length co45) t161 x146000_23 x146001_23 x146002_23 x146003_23 x146004_23 x146005_23 t164 w _ ?side1 ?side2 A36.out).mono ?_); (case side1 => repeat (first | (with_reducible first | exact HB.out | apply below_alloc | apply pw_below_drewN | apply below_drew1 | refine below_set ?_ GE145.out) | exact HB.out)); (case side2 => exact Kd.R_tight rfl HO163.out); rintro e w46 ⟨v165, rfl, ho0, hb, hkp⟩; refine ⟨_, rfl, ?_⟩; have n0_ := Aside0.mk (blk_kept (by (with_reducible repeat (first | refine blk_drewN ?_ _ | refine blk_drew ?_ | refine blk_alloc ?_ _)); exact BK145.out) hkp (fun hs_ => (fun e_ => (Kd.R_away HO163.out (fun _ hk => hk)) e_) hs_)); have n1_ := Aside0.mk (Kd.R_mono (ok' := fun k_ => k_ ≠ gb145) ho0 (fun k_ hk_ => Or.elim hk_ (fun hs_ => fun e_ => (Kd.R_away HO163.out (fun _ hk => hk)) (by rw [← e_]; exact hs_)) (fun hn_ => (Kd.freshB (g := gb145) (o := .cells #[.int .i64 x146000_23, .int .i64 x146001_23, .int .i64 x146002_23, .int .i64 x146003_23, .int .i64 x146004_23, .int .i64 x146005_23] 42 (0, 0)) (by (with_reducible repeat (first | refine blk_drewN ?_ _ | refine blk_drew ?_ | refine blk_alloc ?_ _)); exact BK145.out) k_ hn_)))); have n2_ := Aside0.mk (hb); clear BK145; clear HB; clear HO163; have BK145 := n0_; have HO166 := n1_; have HB := n2_; clear n0_ n1_ n2_; (try clear hb); (try clear hkp); (try clear ho0); have hcz47_0 : w46.cell? ⟨gb145, 0, none⟩ = some (.int .i64 x146000_23) := (blk_cell BK145.out 0).trans rfl; have hcz47_1 : w46.cell? ⟨gb145, 1, none⟩ = some (.int .i64 x146001_23) := (blk_cell BK145.out 1).trans rfl; have hcz47_2 : w46.cell? ⟨gb145, 2, none⟩ = some (.int .i64 x146002_23) := (blk_cell BK145.out 2).trans rfl; have hcz47_3 : w46.cell? ⟨gb145, 3, none⟩ = some (.int .i64 x146003_23) := (blk_cell BK145.out 3).trans rfl; have hcz47_4 : w46.cell? ⟨gb145, 4, none⟩ = some (.int .i64 x146004_23) := (blk_cell BK145.out 4).trans rfl; have hcz47_5 : w46.cell? ⟨gb145, 5, none⟩ = some (.int .i64 x146005_23) := (blk_cell BK145.out 5).trans rfl; have hfz47_0 := blk_frozen BK145.out 0; have hfz47_1 := blk_frozen BK145.out 1; have hfz47_2 := blk_frozen BK145.out 2; have hfz47_3 := blk_frozen BK145.out 3; have hfz47_4 := blk_frozen BK145.out 4; have hfz47_5 := blk_frozen BK145.out 5))
              go_roundg kj23
              case measure => have := HK1.out; have := HJ15.out; have := HJ23.out; omega
              case rel => exact ⟨(t164), (wrap64 (x146000_23 + 1)), (wrap64 (x9_1 + 1)), (wrap64 (x26_1 + 1)), (by first | rfl | (simp; done) | (simp [*]; done)), (by first | rfl | (simp; done) | (simp [*]; done)), (by first | rfl | (simp; done) | (simp [*]; done)), H', ⟨by have := HK1.out; have := HJ15.out; have := HJ23.out; omega⟩, ⟨by (with_reducible repeat (first | apply Kd.R_alloc | apply Kd.R_drewN | apply Kd.R_drew)); exact Kd.R_mono HO166.out (fun _ hk => trivial)⟩, ⟨by repeat (first | (with_reducible first | exact HB.out | apply below_alloc | apply pw_below_drewN | apply below_drew1 | refine below_set ?_ GE145.out) | exact HB.out)⟩⟩
             ·rw [if_neg c35] at H
              have c35b0 : (x146005_23 == 0) = false := beq_eq_false_iff_ne.mpr c35
              have c35b1 : (x146005_23 != 0) = true := bne_iff_ne.mpr c35
              replace H := Option.bind_eq_some_iff.mp H
              obtain ⟨t167, A480, H⟩ := H
              replace H : (collect_Collector_Take.l0 kj23 t167 (wrap64 (x146000_23 + 1)) x9_1 l1 (l1.length : Int) (wrap64 (x26_1 + 1))) = some (r1, r2, r3) := H
              have A48 := Aside0.mk A480
              clear A480
              have H' := Aside0.mk H
              clear H
              have hcz49_0 : wc.cell? ⟨gb145, 0, none⟩ = some (.int .i64 x146000_23) := (blk_cell BK145.out 0).trans rfl
              have hcz49_1 : wc.cell? ⟨gb145, 1, none⟩ = some (.int .i64 x146001_23) := (blk_cell BK145.out 1).trans rfl
              have hcz49_2 : wc.cell? ⟨gb145, 2, none⟩ = some (.int .i64 x146002_23) := (blk_cell BK145.out 2).trans rfl
              have hcz49_3 : wc.cell? ⟨gb145, 3, none⟩ = some (.int .i64 x146003_23) := (blk_cell BK145.out 3).trans rfl
              have hcz49_4 : wc.cell? ⟨gb145, 4, none⟩ = some (.int .i64 x146004_23) := (blk_cell BK145.out 4).trans rfl
              have hcz49_5 : wc.cell? ⟨gb145, 5, none⟩ = some (.int .i64 x146005_23) := (blk_cell BK145.out 5).trans rfl
              have hfz49_0 := blk_frozen BK145.out 0
              have hfz49_1 := blk_frozen BK145.out 1
              have hfz49_2 := blk_frozen BK145.out 2
              have hfz49_3 := blk_frozen BK145.out 3
              have hfz49_4 := blk_frozen BK145.out 4
              have hfz49_5 := blk_frozen BK145.out 5
              go_wp2_with (first | ((with_reducible refine gate_callee (f := 33) rfl ?_); refine goesL_ (some 48) rfl rfl Try.func33 (by kernel_rfl) rfl #[.agg #[.int .i64 x146000_23, .int .i64 x146001_23, .int .i64 x146002_23, .int .i64 x146003_23, .int .i64 x146004_23, .int .i64 x146005_23]] rfl (by (try simp only [List.map_toArray, List.map_cons, List.map_nil]); first | done | rfl | (simp only [List.length_drop, List.length_take]; rfl)) ?_; (with_reducible refine (collect_least.calls x146000_23 x146001_23 x146002_23 x146003_23 x146004_23 x146005_23 t153 _ A30.out).mono ?_); rintro e w50 ⟨rfl, hb⟩; refine ⟨_, rfl, ?_⟩; have n0_ := Aside0.mk (Kd.R_below (by (with_reducible repeat (first | apply Kd.R_alloc | apply Kd.R_drewN | apply Kd.R_drew)); exact HO_7.out) hb); have n1_ := Aside0.mk (blk_below (g := gb145) (o := .cells #[.int .i64 x146000_23, .int .i64 x146001_23, .int .i64 x146002_23, .int .i64 x146003_23, .int .i64 x146004_23, .int .i64 x146005_23] 42 (0, 0)) (by (with_reducible repeat (first | refine blk_drewN ?_ _ | refine blk_drew ?_ | refine blk_alloc ?_ _)); exact BK145.out) hb); have n2_ := Aside0.mk (below_step (by repeat (first | (with_reducible first | exact HB.out | apply below_alloc | apply pw_below_drewN | apply below_drew1 | refine below_set ?_ GE145.out) | exact HB.out)) hb); clear HO_7; clear BK145; clear HB; have HO_7 := n0_; have BK145 := n1_; have HB := n2_; clear n0_ n1_ n2_; (try clear hb); (try clear hb2); (try clear hk); (try clear hi); have hcz51_0 : w50.cell? ⟨gb145, 0, none⟩ = some (.int .i64 x146000_23) := (blk_cell BK145.out 0).trans rfl; have hcz51_1 : w50.cell? ⟨gb145, 1, none⟩ = some (.int .i64 x146001_23) := (blk_cell BK145.out 1).trans rfl; have hcz51_2 : w50.cell? ⟨gb145, 2, none⟩ = some (.int .i64 x146002_23) := (blk_cell BK145.out 2).trans rfl; have hcz51_3 : w50.cell? ⟨gb145, 3, none⟩ = some (.int .i64 x146003_23) := (blk_cell BK145.out 3).trans rfl; have hcz51_4 : w50.cell? ⟨gb145, 4, none⟩ = some (.int .i64 x146004_23) := (blk_cell BK145.out 4).trans rfl; have hcz51_5 : w50.cell? ⟨gb145, 5, none⟩ = some (.int .i64 x146005_23) := (blk_cell BK145.out 5).trans rfl; have hfz51_0 := blk_frozen BK145.out 0; have hfz51_1 := blk_frozen BK145.out 1; have hfz51_2 := blk_frozen BK145.out 2; have hfz51_3 := blk_frozen BK145.out 3; have hfz51_4 := blk_frozen BK145.out 4; have hfz51_5 := blk_frozen BK145.out 5) | ((with_reducible refine gate_callee (f := 33) rfl ?_); refine goesL_ (some 54) rfl rfl Try.func33 (by kernel_rfl) rfl #[.agg #[.int .i64 x146000_23, .int .i64 x146001_23, .int .i64 x146002_23, .int .i64 x146003_23, .int .i64 x146004_23, .int .i64 x146005_23]] rfl (by (try simp only [List.map_toArray, List.map_cons, List.map_nil]); first | done | rfl | (simp only [List.length_drop, List.length_take]; rfl)) ?_; (with_reducible refine (collect_least.calls x146000_23 x146001_23 x146002_23 x146003_23 x146004_23 x146005_23 t154 _ A32.out).mono ?_); rintro e w52 ⟨rfl, hb⟩; refine ⟨_, rfl, ?_⟩; have n0_ := Aside0.mk (Kd.R_below (by (with_reducible repeat (first | apply Kd.R_alloc | apply Kd.R_drewN | apply Kd.R_drew)); exact HO_7.out) hb); have n1_ := Aside0.mk (blk_below (g := gb145) (o := .cells #[.int .i64 x146000_23, .int .i64 x146001_23, .int .i64 x146002_23, .int .i64 x146003_23, .int .i64 x146004_23, .int .i64 x146005_23] 42 (0, 0)) (by (with_reducible repeat (first | refine blk_drewN ?_ _ | refine blk_drew ?_ | refine blk_alloc ?_ _)); exact BK145.out) hb); have n2_ := Aside0.mk (below_step (by repeat (first | (with_reducible first | exact HB.out | apply below_alloc | apply pw_below_drewN | apply below_drew1 | refine below_set ?_ GE145.out) | exact HB.out)) hb); clear HO_7; clear BK145; clear HB; have HO_7 := n0_; have BK145 := n1_; have HB := n2_; clear n0_ n1_ n2_; (try clear hb); (try clear hb2); (try clear hk); (try clear hi)) | ((with_reducible refine gate_callee (f := 34) rfl ?_); refine goesL_ (some 56) rfl rfl Try.func34 (by kernel_rfl) rfl #[.int .i64 x8_1, .int .i64 (wrap64 (t154 - 1))] rfl (by (try simp only [List.map_toArray, List.map_cons, List.map_nil]); first | done | rfl | (simp only [List.length_drop, List.length_take]; rfl)) ?_; (with_reducible refine (collect_gap.calls x8_1 (wrap64 (t154 - 1)) t155 t156 t157 t158 t159 t160 _ A33.out).mono ?_); rintro e w53 ⟨rfl, hb⟩; refine ⟨_, rfl, ?_⟩; have n0_ := Aside0.mk (Kd.R_below (by (with_reducible repeat (first | apply Kd.R_alloc | apply Kd.R_drewN | apply Kd.R_drew)); exact HO_7.out) hb); have n1_ := Aside0.mk (blk_below (g := gb145) (o := .cells #[.int .i64 x146000_23, .int .i64 x146001_23, .int .i64 x146002_23, .int .i64 x146003_23, .int .i64 x146004_23, .int .i64 x146005_23] 42 (0, 0)) (by (with_reducible repeat (first | refine blk_drewN ?_ _ | refine blk_drew ?_ | refine blk_alloc ?_ _)); exact BK145.out) hb); have n2_ := Aside0.mk (below_step (by repeat (first | (with_reducible first | exact HB.out | apply below_alloc | apply pw_below_drewN | apply below_drew1 | refine below_set ?_ GE145.out) | exact HB.out)) hb); clear HO_7; clear BK145; clear HB; have HO_7 := n0_; have BK145 := n1_; have HB := n2_; clear n0_ n1_ n2_; (try clear hb); (try clear hb2); (try clear hk); (try clear hi); obtain ⟨Ao54, co54, eo54⟩ := Kd.R_slice HO_7.out; subst eo54) | ((with_reducible refine gate_callee (f := 35) rfl ?_); refine goesL_ (some 57) rfl rfl Try.func35 (by kernel_rfl) rfl #[.slice Ao54 x7_1.length co54, .agg #[.int .i64 t155, .int .i64 t156, .int .i64 t157, .int .i64 t158, .int .i64 t159, .int .i64 t160]] rfl (by (try simp only [List.map_toArray, List.map_cons, List.map_nil]); first | done | rfl | (simp only [List.length_drop, List.length_take]; rfl)) ?_; (with_reducible refine (collect_put.calls (fun k_ => some k_ = (.slice Ao54 x7_1.length co54 : Value).ownBlock) (.slice Ao54 x7_1.length co54) x7_1 t155 t156 t157 t158 t159 t160 t161 w _ ?side1 ?side2 A34.out).mono ?_); (case side1 => repeat (first | (with_reducible first | exact HB.out | apply below_alloc | apply pw_below_drewN | apply below_drew1 | refine below_set ?_ GE145.out) | exact HB.out)); (case side2 => exact Kd.R_tight rfl HO_7.out); rintro e w55 ⟨v162, rfl, ho0, hb, hkp⟩; refine ⟨_, rfl, ?_⟩; have n0_ := Aside0.mk (blk_kept (by (with_reducible repeat (first | refine blk_drewN ?_ _ | refine blk_drew ?_ | refine blk_alloc ?_ _)); exact BK145.out) hkp (fun hs_ => (fun e_ => (Kd.R_away HO_7.out (fun _ hk => hk)) e_) hs_)); have n1_ := Aside0.mk (Kd.R_mono (ok' := fun k_ => k_ ≠ gb145) ho0 (fun k_ hk_ => Or.elim hk_ (fun hs_ => fun e_ => (Kd.R_away HO_7.out (fun _ hk => hk)) (by rw [← e_]; exact hs_)) (fun hn_ => (Kd.freshB (g := gb145) (o := .cells #[.int .i64 x146000_23, .int .i64 x146001_23, .int .i64 x146002_23, .int .i64 x146003_23, .int .i64 x146004_23, .int .i64 x146005_23] 42 (0, 0)) (by (with_reducible repeat (first | refine blk_drewN ?_ _ | refine blk_drew ?_ | refine blk_alloc ?_ _)); exact BK145.out) k_ hn_)))); have n2_ := Aside0.mk (hb); clear BK145; clear HB; clear HO_7; have BK145 := n0_; have HO163 := n1_; have HB := n2_; clear n0_ n1_ n2_; (try clear hb); (try clear hkp); (try clear ho0); have hcz56_0 : w55.cell? ⟨gb145, 0, none⟩ = some (.int .i64 x146000_23) := (blk_cell BK145.out 0).trans rfl; have hcz56_1 : w55.cell? ⟨gb145, 1, none⟩ = some (.int .i64 x146001_23) := (blk_cell BK145.out 1).trans rfl; have hcz56_2 : w55.cell? ⟨gb145, 2, none⟩ = some (.int .i64 x146002_23) := (blk_cell BK145.out 2).trans rfl; have hcz56_3 : w55.cell? ⟨gb145, 3, none⟩ = some (.int .i64 x146003_23) := (blk_cell BK145.out 3).trans rfl; have hcz56_4 : w55.cell? ⟨gb145, 4, none⟩ = some (.int .i64 x146004_23) := (blk_cell BK145.out 4).trans rfl; have hcz56_5 : w55.cell? ⟨gb145, 5, none⟩ = some (.int .i64 x146005_23) := (blk_cell BK145.out 5).trans rfl; have hfz56_0 := blk_frozen BK145.out 0; have hfz56_1 := blk_frozen BK145.out 1; have hfz56_2 := blk_frozen BK145.out 2; have hfz56_3 := blk_frozen BK145.out 3; have hfz56_4 := blk_frozen BK145.out 4; have hfz56_5 := blk_frozen BK145.out 5; obtain ⟨Ao57, co57, eo57⟩ := Kd.R_slice HO163.out; subst eo57) | ((with_reducible refine gate_callee (f := 35) rfl ?_); refine goesL_ (some 65) rfl rfl Try.func35 (by kernel_rfl) rfl #[.slice Ao57 t161.length co57, .agg #[.int .i64 x146000_23, .int .i64 x146001_23, .int .i64 x146002_23, .int .i64 x146003_23, .int .i64 x146004_23, .int .i64 x146005_23]] rfl (by (try simp only [List.map_toArray, List.map_cons, List.map_nil]); first | done | rfl | (simp only [List.length_drop, List.length_take]; rfl)) ?_; (with_reducible refine (collect_put.calls (fun k_ => some k_ = (.slice Ao57 t161.length co57 : Value).ownBlock) (.slice Ao57 t161.length co57) t161 x146000_23 x146001_23 x146002_23 x146003_23 x146004_23 x146005_23 t167 w _ ?side1 ?side2 A48.out).mono ?_); (case side1 => repeat (first | (with_reducible first | exact HB.out | apply below_alloc | apply pw_below_drewN | apply below_drew1 | refine below_set ?_ GE145.out) | exact HB.out)); (case side2 => exact Kd.R_tight rfl HO163.out); rintro e w58 ⟨v168, rfl, ho0, hb, hkp⟩; refine ⟨_, rfl, ?_⟩; have n0_ := Aside0.mk (blk_kept (by (with_reducible repeat (first | refine blk_drewN ?_ _ | refine blk_drew ?_ | refine blk_alloc ?_ _)); exact BK145.out) hkp (fun hs_ => (fun e_ => (Kd.R_away HO163.out (fun _ hk => hk)) e_) hs_)); have n1_ := Aside0.mk (Kd.R_mono (ok' := fun k_ => k_ ≠ gb145) ho0 (fun k_ hk_ => Or.elim hk_ (fun hs_ => fun e_ => (Kd.R_away HO163.out (fun _ hk => hk)) (by rw [← e_]; exact hs_)) (fun hn_ => (Kd.freshB (g := gb145) (o := .cells #[.int .i64 x146000_23, .int .i64 x146001_23, .int .i64 x146002_23, .int .i64 x146003_23, .int .i64 x146004_23, .int .i64 x146005_23] 42 (0, 0)) (by (with_reducible repeat (first | refine blk_drewN ?_ _ | refine blk_drew ?_ | refine blk_alloc ?_ _)); exact BK145.out) k_ hn_)))); have n2_ := Aside0.mk (hb); clear BK145; clear HB; clear HO163; have BK145 := n0_; have HO169 := n1_; have HB := n2_; clear n0_ n1_ n2_; (try clear hb); (try clear hkp); (try clear ho0); have hcz59_0 : w58.cell? ⟨gb145, 0, none⟩ = some (.int .i64 x146000_23) := (blk_cell BK145.out 0).trans rfl; have hcz59_1 : w58.cell? ⟨gb145, 1, none⟩ = some (.int .i64 x146001_23) := (blk_cell BK145.out 1).trans rfl; have hcz59_2 : w58.cell? ⟨gb145, 2, none⟩ = some (.int .i64 x146002_23) := (blk_cell BK145.out 2).trans rfl; have hcz59_3 : w58.cell? ⟨gb145, 3, none⟩ = some (.int .i64 x146003_23) := (blk_cell BK145.out 3).trans rfl; have hcz59_4 : w58.cell? ⟨gb145, 4, none⟩ = some (.int .i64 x146004_23) := (blk_cell BK145.out 4).trans rfl; have hcz59_5 : w58.cell? ⟨gb145, 5, none⟩ = some (.int .i64 x146005_23) := (blk_cell BK145.out 5).trans rfl; have hfz59_0 := blk_frozen BK145.out 0; have hfz59_1 := blk_frozen BK145.out 1; have hfz59_2 := blk_frozen BK145.out 2; have hfz59_3 := blk_frozen BK145.out 3; have hfz59_4 := blk_frozen BK145.out 4; have hfz59_5 := blk_frozen BK145.out 5))
              go_roundg kj23
              case measure => have := HK1.out; have := HJ15.out; have := HJ23.out; omega
              case rel => exact ⟨(t167), (wrap64 (x146000_23 + 1)), (x9_1), (wrap64 (x26_1 + 1)), (by first | rfl | (simp; done) | (simp [*]; done)), (by first | rfl | (simp; done) | (simp [*]; done)), (by first | rfl | (simp; done) | (simp [*]; done)), H', ⟨by have := HK1.out; have := HJ15.out; have := HJ23.out; omega⟩, ⟨by (with_reducible repeat (first | apply Kd.R_alloc | apply Kd.R_drewN | apply Kd.R_drew)); exact Kd.R_mono HO169.out (fun _ hk => trivial)⟩, ⟨by repeat (first | (with_reducible first | exact HB.out | apply below_alloc | apply pw_below_drewN | apply below_drew1 | refine below_set ?_ GE145.out) | exact HB.out)⟩⟩
            ·rw [if_neg c31] at H
             have c31b0 : decide (x8_1 < t153) = false := decide_eq_false c31
             clear c31
             by_cases c60 : x146005_23 = 0
             ·rw [if_pos c60] at H
              have c60b0 : (x146005_23 == 0) = true := beq_iff_eq.mpr c60
              have c60b1 : (x146005_23 != 0) = false := bne_eq_false_iff_eq.mpr c60
              clear c60
              replace H := Option.bind_eq_some_iff.mp H
              obtain ⟨t170, A610, H⟩ := H
              replace H : (collect_Collector_Take.l0 kj23 t170 (wrap64 (x146000_23 + 1)) (wrap64 (x9_1 + 1)) l1 (l1.length : Int) (wrap64 (x26_1 + 1))) = some (r1, r2, r3) := H
              have A61 := Aside0.mk A610
              clear A610
              have H' := Aside0.mk H
              clear H
              have hcz62_0 : wc.cell? ⟨gb145, 0, none⟩ = some (.int .i64 x146000_23) := (blk_cell BK145.out 0).trans rfl
              have hcz62_1 : wc.cell? ⟨gb145, 1, none⟩ = some (.int .i64 x146001_23) := (blk_cell BK145.out 1).trans rfl
              have hcz62_2 : wc.cell? ⟨gb145, 2, none⟩ = some (.int .i64 x146002_23) := (blk_cell BK145.out 2).trans rfl
              have hcz62_3 : wc.cell? ⟨gb145, 3, none⟩ = some (.int .i64 x146003_23) := (blk_cell BK145.out 3).trans rfl
              have hcz62_4 : wc.cell? ⟨gb145, 4, none⟩ = some (.int .i64 x146004_23) := (blk_cell BK145.out 4).trans rfl
              have hcz62_5 : wc.cell? ⟨gb145, 5, none⟩ = some (.int .i64 x146005_23) := (blk_cell BK145.out 5).trans rfl
              have hfz62_0 := blk_frozen BK145.out 0
              have hfz62_1 := blk_frozen BK145.out 1
              have hfz62_2 := blk_frozen BK145.out 2
              have hfz62_3 := blk_frozen BK145.out 3
              have hfz62_4 := blk_frozen BK145.out 4
              have hfz62_5 := blk_frozen BK145.out 5
              go_wp2_with (first | ((with_reducible refine gate_callee (f := 33) rfl ?_); refine goesL_ (some 48) rfl rfl Try.func33 (by kernel_rfl) rfl #[.agg #[.int .i64 x146000_23, .int .i64 x146001_23, .int .i64 x146002_23, .int .i64 x146003_23, .int .i64 x146004_23, .int .i64 x146005_23]] rfl (by (try simp only [List.map_toArray, List.map_cons, List.map_nil]); first | done | rfl | (simp only [List.length_drop, List.length_take]; rfl)) ?_; (with_reducible refine (collect_least.calls x146000_23 x146001_23 x146002_23 x146003_23 x146004_23 x146005_23 t153 _ A30.out).mono ?_); rintro e w63 ⟨rfl, hb⟩; refine ⟨_, rfl, ?_⟩; have n0_ := Aside0.mk (Kd.R_below (by (with_reducible repeat (first | apply Kd.R_alloc | apply Kd.R_drewN | apply Kd.R_drew)); exact HO_7.out) hb); have n1_ := Aside0.mk (blk_below (g := gb145) (o := .cells #[.int .i64 x146000_23, .int .i64 x146001_23, .int .i64 x146002_23, .int .i64 x146003_23, .int .i64 x146004_23, .int .i64 x146005_23] 42 (0, 0)) (by (with_reducible repeat (first | refine blk_drewN ?_ _ | refine blk_drew ?_ | refine blk_alloc ?_ _)); exact BK145.out) hb); have n2_ := Aside0.mk (below_step (by repeat (first | (with_reducible first | exact HB.out | apply below_alloc | apply pw_below_drewN | apply below_drew1 | refine below_set ?_ GE145.out) | exact HB.out)) hb); clear HO_7; clear BK145; clear HB; have HO_7 := n0_; have BK145 := n1_; have HB := n2_; clear n0_ n1_ n2_; (try clear hb); (try clear hb2); (try clear hk); (try clear hi); have hcz64_0 : w63.cell? ⟨gb145, 0, none⟩ = some (.int .i64 x146000_23) := (blk_cell BK145.out 0).trans rfl; have hcz64_1 : w63.cell? ⟨gb145, 1, none⟩ = some (.int .i64 x146001_23) := (blk_cell BK145.out 1).trans rfl; have hcz64_2 : w63.cell? ⟨gb145, 2, none⟩ = some (.int .i64 x146002_23) := (blk_cell BK145.out 2).trans rfl; have hcz64_3 : w63.cell? ⟨gb145, 3, none⟩ = some (.int .i64 x146003_23) := (blk_cell BK145.out 3).trans rfl; have hcz64_4 : w63.cell? ⟨gb145, 4, none⟩ = some (.int .i64 x146004_23) := (blk_cell BK145.out 4).trans rfl; have hcz64_5 : w63.cell? ⟨gb145, 5, none⟩ = some (.int .i64 x146005_23) := (blk_cell BK145.out 5).trans rfl; have hfz64_0 := blk_frozen BK145.out 0; have hfz64_1 := blk_frozen BK145.out 1; have hfz64_2 := blk_frozen BK145.out 2; have hfz64_3 := blk_frozen BK145.out 3; have hfz64_4 := blk_frozen BK145.out 4; have hfz64_5 := blk_frozen BK145.out 5; obtain ⟨Ao65, co65, eo65⟩ := Kd.R_slice HO_7.out; subst eo65) | ((with_reducible refine gate_callee (f := 35) rfl ?_); refine goesL_ (some 65) rfl rfl Try.func35 (by kernel_rfl) rfl #[.slice Ao65 x7_1.length co65, .agg #[.int .i64 x146000_23, .int .i64 x146001_23, .int .i64 x146002_23, .int .i64 x146003_23, .int .i64 x146004_23, .int .i64 x146005_23]] rfl (by (try simp only [List.map_toArray, List.map_cons, List.map_nil]); first | done | rfl | (simp only [List.length_drop, List.length_take]; rfl)) ?_; (with_reducible refine (collect_put.calls (fun k_ => some k_ = (.slice Ao65 x7_1.length co65 : Value).ownBlock) (.slice Ao65 x7_1.length co65) x7_1 x146000_23 x146001_23 x146002_23 x146003_23 x146004_23 x146005_23 t170 w _ ?side1 ?side2 A61.out).mono ?_); (case side1 => repeat (first | (with_reducible first | exact HB.out | apply below_alloc | apply pw_below_drewN | apply below_drew1 | refine below_set ?_ GE145.out) | exact HB.out)); (case side2 => exact Kd.R_tight rfl HO_7.out); rintro e w66 ⟨v171, rfl, ho0, hb, hkp⟩; refine ⟨_, rfl, ?_⟩; have n0_ := Aside0.mk (blk_kept (by (with_reducible repeat (first | refine blk_drewN ?_ _ | refine blk_drew ?_ | refine blk_alloc ?_ _)); exact BK145.out) hkp (fun hs_ => (fun e_ => (Kd.R_away HO_7.out (fun _ hk => hk)) e_) hs_)); have n1_ := Aside0.mk (Kd.R_mono (ok' := fun k_ => k_ ≠ gb145) ho0 (fun k_ hk_ => Or.elim hk_ (fun hs_ => fun e_ => (Kd.R_away HO_7.out (fun _ hk => hk)) (by rw [← e_]; exact hs_)) (fun hn_ => (Kd.freshB (g := gb145) (o := .cells #[.int .i64 x146000_23, .int .i64 x146001_23, .int .i64 x146002_23, .int .i64 x146003_23, .int .i64 x146004_23, .int .i64 x146005_23] 42 (0, 0)) (by (with_reducible repeat (first | refine blk_drewN ?_ _ | refine blk_drew ?_ | refine blk_alloc ?_ _)); exact BK145.out) k_ hn_)))); have n2_ := Aside0.mk (hb); clear BK145; clear HB; clear HO_7; have BK145 := n0_; have HO172 := n1_; have HB := n2_; clear n0_ n1_ n2_; (try clear hb); (try clear hkp); (try clear ho0); have hcz67_0 : w66.cell? ⟨gb145, 0, none⟩ = some (.int .i64 x146000_23) := (blk_cell BK145.out 0).trans rfl; have hcz67_1 : w66.cell? ⟨gb145, 1, none⟩ = some (.int .i64 x146001_23) := (blk_cell BK145.out 1).trans rfl; have hcz67_2 : w66.cell? ⟨gb145, 2, none⟩ = some (.int .i64 x146002_23) := (blk_cell BK145.out 2).trans rfl; have hcz67_3 : w66.cell? ⟨gb145, 3, none⟩ = some (.int .i64 x146003_23) := (blk_cell BK145.out 3).trans rfl; have hcz67_4 : w66.cell? ⟨gb145, 4, none⟩ = some (.int .i64 x146004_23) := (blk_cell BK145.out 4).trans rfl; have hcz67_5 : w66.cell? ⟨gb145, 5, none⟩ = some (.int .i64 x146005_23) := (blk_cell BK145.out 5).trans rfl; have hfz67_0 := blk_frozen BK145.out 0; have hfz67_1 := blk_frozen BK145.out 1; have hfz67_2 := blk_frozen BK145.out 2; have hfz67_3 := blk_frozen BK145.out 3; have hfz67_4 := blk_frozen BK145.out 4; have hfz67_5 := blk_frozen BK145.out 5))
              go_roundg kj23
              case measure => have := HK1.out; have := HJ15.out; have := HJ23.out; omega
              case rel => exact ⟨(t170), (wrap64 (x146000_23 + 1)), (wrap64 (x9_1 + 1)), (wrap64 (x26_1 + 1)), (by first | rfl | (simp; done) | (simp [*]; done)), (by first | rfl | (simp; done) | (simp [*]; done)), (by first | rfl | (simp; done) | (simp [*]; done)), H', ⟨by have := HK1.out; have := HJ15.out; have := HJ23.out; omega⟩, ⟨by (with_reducible repeat (first | apply Kd.R_alloc | apply Kd.R_drewN | apply Kd.R_drew)); exact Kd.R_mono HO172.out (fun _ hk => trivial)⟩, ⟨by repeat (first | (with_reducible first | exact HB.out | apply below_alloc | apply pw_below_drewN | apply below_drew1 | refine below_set ?_ GE145.out) | exact HB.out)⟩⟩
             ·rw [if_neg c60] at H
              have c60b0 : (x146005_23 == 0) = false := beq_eq_false_iff_ne.mpr c60
              have c60b1 : (x146005_23 != 0) = true := bne_iff_ne.mpr c60
              replace H := Option.bind_eq_some_iff.mp H
              obtain ⟨t173, A680, H⟩ := H
              replace H : (collect_Collector_Take.l0 kj23 t173 (wrap64 (x146000_23 + 1)) x9_1 l1 (l1.length : Int) (wrap64 (x26_1 + 1))) = some (r1, r2, r3) := H
              have A68 := Aside0.mk A680
              clear A680
              have H' := Aside0.mk H
              clear H
              have hcz69_0 : wc.cell? ⟨gb145, 0, none⟩ = some (.int .i64 x146000_23) := (blk_cell BK145.out 0).trans rfl
              have hcz69_1 : wc.cell? ⟨gb145, 1, none⟩ = some (.int .i64 x146001_23) := (blk_cell BK145.out 1).trans rfl
              have hcz69_2 : wc.cell? ⟨gb145, 2, none⟩ = some (.int .i64 x146002_23) := (blk_cell BK145.out 2).trans rfl
              have hcz69_3 : wc.cell? ⟨gb145, 3, none⟩ = some (.int .i64 x146003_23) := (blk_cell BK145.out 3).trans rfl
              have hcz69_4 : wc.cell? ⟨gb145, 4, none⟩ = some (.int .i64 x146004_23) := (blk_cell BK145.out 4).trans rfl
              have hcz69_5 : wc.cell? ⟨gb145, 5, none⟩ = some (.int .i64 x146005_23) := (blk_cell BK145.out 5).trans rfl
              have hfz69_0 := blk_frozen BK145.out 0
              have hfz69_1 := blk_frozen BK145.out 1
              have hfz69_2 := blk_frozen BK145.out 2
              have hfz69_3 := blk_frozen BK145.out 3
              have hfz69_4 := blk_frozen BK145.out 4
              have hfz69_5 := blk_frozen BK145.out 5
              go_wp2_with (first | ((with_reducible refine gate_callee (f := 33) rfl ?_); refine goesL_ (some 48) rfl rfl Try.func33 (by kernel_rfl) rfl #[.agg #[.int .i64 x146000_23, .int .i64 x146001_23, .int .i64 x146002_23, .int .i64 x146003_23, .int .i64 x146004_23, .int .i64 x146005_23]] rfl (by (try simp only [List.map_toArray, List.map_cons, List.map_nil]); first | done | rfl | (simp only [List.length_drop, List.length_take]; rfl)) ?_; (with_reducible refine (collect_least.calls x146000_23 x146001_23 x146002_23 x146003_23 x146004_23 x146005_23 t153 _ A30.out).mono ?_); rintro e w70 ⟨rfl, hb⟩; refine ⟨_, rfl, ?_⟩; have n0_ := Aside0.mk (Kd.R_below (by (with_reducible repeat (first | apply Kd.R_alloc | apply Kd.R_drewN | apply Kd.R_drew)); exact HO_7.out) hb); have n1_ := Aside0.mk (blk_below (g := gb145) (o := .cells #[.int .i64 x146000_23, .int .i64 x146001_23, .int .i64 x146002_23, .int .i64 x146003_23, .int .i64 x146004_23, .int .i64 x146005_23] 42 (0, 0)) (by (with_reducible repeat (first | refine blk_drewN ?_ _ | refine blk_drew ?_ | refine blk_alloc ?_ _)); exact BK145.out) hb); have n2_ := Aside0.mk (below_step (by repeat (first | (with_reducible first | exact HB.out | apply below_alloc | apply pw_below_drewN | apply below_drew1 | refine below_set ?_ GE145.out) | exact HB.out)) hb); clear HO_7; clear BK145; clear HB; have HO_7 := n0_; have BK145 := n1_; have HB := n2_; clear n0_ n1_ n2_; (try clear hb); (try clear hb2); (try clear hk); (try clear hi); have hcz71_0 : w70.cell? ⟨gb145, 0, none⟩ = some (.int .i64 x146000_23) := (blk_cell BK145.out 0).trans rfl; have hcz71_1 : w70.cell? ⟨gb145, 1, none⟩ = some (.int .i64 x146001_23) := (blk_cell BK145.out 1).trans rfl; have hcz71_2 : w70.cell? ⟨gb145, 2, none⟩ = some (.int .i64 x146002_23) := (blk_cell BK145.out 2).trans rfl; have hcz71_3 : w70.cell? ⟨gb145, 3, none⟩ = some (.int .i64 x146003_23) := (blk_cell BK145.out 3).trans rfl; have hcz71_4 : w70.cell? ⟨gb145, 4, none⟩ = some (.int .i64 x146004_23) := (blk_cell BK145.out 4).trans rfl; have hcz71_5 : w70.cell? ⟨gb145, 5, none⟩ = some (.int .i64 x146005_23) := (blk_cell BK145.out 5).trans rfl; have hfz71_0 := blk_frozen BK145.out 0; have hfz71_1 := blk_frozen BK145.out 1; have hfz71_2 := blk_frozen BK145.out 2; have hfz71_3 := blk_frozen BK145.out 3; have hfz71_4 := blk_frozen BK145.out 4; have hfz71_5 := blk_frozen BK145.out 5; obtain ⟨Ao72, co72, eo72⟩ := Kd.R_slice HO_7.out; subst eo72) | ((with_reducible refine gate_callee (f := 35) rfl ?_); refine goesL_ (some 65) rfl rfl Try.func35 (by kernel_rfl) rfl #[.slice Ao72 x7_1.length co72, .agg #[.int .i64 x146000_23, .int .i64 x146001_23, .int .i64 x146002_23, .int .i64 x146003_23, .int .i64 x146004_23, .int .i64 x146005_23]] rfl (by (try simp only [List.map_toArray, List.map_cons, List.map_nil]); first | done | rfl | (simp only [List.length_drop, List.length_take]; rfl)) ?_; (with_reducible refine (collect_put.calls (fun k_ => some k_ = (.slice Ao72 x7_1.length co72 : Value).ownBlock) (.slice Ao72 x7_1.length co72) x7_1 x146000_23 x146001_23 x146002_23 x146003_23 x146004_23 x146005_23 t173 w _ ?side1 ?side2 A68.out).mono ?_); (case side1 => repeat (first | (with_reducible first | exact HB.out | apply below_alloc | apply pw_below_drewN | apply below_drew1 | refine below_set ?_ GE145.out) | exact HB.out)); (case side2 => exact Kd.R_tight rfl HO_7.out); rintro e w73 ⟨v174, rfl, ho0, hb, hkp⟩; refine ⟨_, rfl, ?_⟩; have n0_ := Aside0.mk (blk_kept (by (with_reducible repeat (first | refine blk_drewN ?_ _ | refine blk_drew ?_ | refine blk_alloc ?_ _)); exact BK145.out) hkp (fun hs_ => (fun e_ => (Kd.R_away HO_7.out (fun _ hk => hk)) e_) hs_)); have n1_ := Aside0.mk (Kd.R_mono (ok' := fun k_ => k_ ≠ gb145) ho0 (fun k_ hk_ => Or.elim hk_ (fun hs_ => fun e_ => (Kd.R_away HO_7.out (fun _ hk => hk)) (by rw [← e_]; exact hs_)) (fun hn_ => (Kd.freshB (g := gb145) (o := .cells #[.int .i64 x146000_23, .int .i64 x146001_23, .int .i64 x146002_23, .int .i64 x146003_23, .int .i64 x146004_23, .int .i64 x146005_23] 42 (0, 0)) (by (with_reducible repeat (first | refine blk_drewN ?_ _ | refine blk_drew ?_ | refine blk_alloc ?_ _)); exact BK145.out) k_ hn_)))); have n2_ := Aside0.mk (hb); clear BK145; clear HB; clear HO_7; have BK145 := n0_; have HO175 := n1_; have HB := n2_; clear n0_ n1_ n2_; (try clear hb); (try clear hkp); (try clear ho0); have hcz74_0 : w73.cell? ⟨gb145, 0, none⟩ = some (.int .i64 x146000_23) := (blk_cell BK145.out 0).trans rfl; have hcz74_1 : w73.cell? ⟨gb145, 1, none⟩ = some (.int .i64 x146001_23) := (blk_cell BK145.out 1).trans rfl; have hcz74_2 : w73.cell? ⟨gb145, 2, none⟩ = some (.int .i64 x146002_23) := (blk_cell BK145.out 2).trans rfl; have hcz74_3 : w73.cell? ⟨gb145, 3, none⟩ = some (.int .i64 x146003_23) := (blk_cell BK145.out 3).trans rfl; have hcz74_4 : w73.cell? ⟨gb145, 4, none⟩ = some (.int .i64 x146004_23) := (blk_cell BK145.out 4).trans rfl; have hcz74_5 : w73.cell? ⟨gb145, 5, none⟩ = some (.int .i64 x146005_23) := (blk_cell BK145.out 5).trans rfl; have hfz74_0 := blk_frozen BK145.out 0; have hfz74_1 := blk_frozen BK145.out 1; have hfz74_2 := blk_frozen BK145.out 2; have hfz74_3 := blk_frozen BK145.out 3; have hfz74_4 := blk_frozen BK145.out 4; have hfz74_5 := blk_frozen BK145.out 5))
              go_roundg kj23
              case measure => have := HK1.out; have := HJ15.out; have := HJ23.out; omega
              case rel => exact ⟨(t173), (wrap64 (x146000_23 + 1)), (x9_1), (wrap64 (x26_1 + 1)), (by first | rfl | (simp; done) | (simp [*]; done)), (by first | rfl | (simp; done) | (simp [*]; done)), (by first | rfl | (simp; done) | (simp [*]; done)), H', ⟨by have := HK1.out; have := HJ15.out; have := HJ23.out; omega⟩, ⟨by (with_reducible repeat (first | apply Kd.R_alloc | apply Kd.R_drewN | apply Kd.R_drew)); exact Kd.R_mono HO175.out (fun _ hk => trivial)⟩, ⟨by repeat (first | (with_reducible first | exact HB.out | apply below_alloc | apply pw_below_drewN | apply below_drew1 | refine below_set ?_ GE145.out) | exact HB.out)⟩⟩
      ·rw [if_neg c12] at H
       exact absurd H (by simp)
     ·rw [if_neg c11] at H
      exact absurd H (by simp)
    ·rw [if_neg c10] at H
     have c10b0 : decide (x26_1 < (l1.length : Int)) = false := decide_eq_false c10
     clear c10
     replace H := Option.bind_eq_some_iff.mp H
     obtain ⟨t143, A750, H⟩ := H
     replace H : (if t143 ≥ 0 then (some (0, 15, x7_1)) else (some (x9_1, 0, x7_1))) = some (r1, r2, r3) := H
     have A75 := Aside0.mk A750
     clear A750
     by_cases c76 : t143 ≥ 0
     ·rw [if_pos c76] at H
      have c76b0 : decide (0 ≤ t143) = true := decide_eq_true c76
      clear c76
      simp only [Option.some.injEq, Prod.mk.injEq] at H
      obtain ⟨rfl, rfl, rfl⟩ := H
      obtain ⟨Ao77, co77, eo77⟩ := Kd.R_slice HO_7.out
      subst eo77
      go_wp2_with (first | ((with_reducible refine gate_callee (f := 36) rfl ?_); refine goesL_ (some 71) rfl rfl Try.func36 (by kernel_rfl) rfl #[.slice Ao77 x7_1.length co77] rfl (by (try simp only [List.map_toArray, List.map_cons, List.map_nil]); first | done | rfl | (simp only [List.length_drop, List.length_take]; rfl)) ?_; (with_reducible refine (collect_late.calls k1 _ _ x7_1 t143 _ ?side1 ?side2 A75.out).mono ?_); (case side1 => repeat (first | exact (Kd.R_reads' HO_7.out).2.2 | (with_reducible refine Kd.C_alloc ?_ _) | (with_reducible refine Kd.C_drewN ?_ _) | (with_reducible refine Kd.C_drew ?_))); (case side2 => exact (Kd.R_reads' HO_7.out).2.1); rintro e w78 ⟨rfl, hb⟩; refine ⟨_, rfl, ?_⟩; have n0_ := Aside0.mk (Kd.R_below (by (with_reducible repeat (first | apply Kd.R_alloc | apply Kd.R_drewN | apply Kd.R_drew)); exact HO_7.out) hb); have n1_ := Aside0.mk (below_step (by repeat (first | (with_reducible first | exact HB.out | apply below_alloc | apply pw_below_drewN | apply below_drew1) | exact HB.out)) hb); clear HO_7; clear HB; have HO_7 := n0_; have HB := n1_; clear n0_ n1_; (try clear hb); (try clear hb2); (try clear hk); (try clear hi)))
      go_ret2
      exact ⟨by first | rfl | (simp [errW_none, errW_some] <;> rfl), by first | exact IsS58.below HI.out (by repeat (first | (with_reducible first | exact HB.out | apply below_alloc | apply pw_below_drewN | apply below_drew1) | exact HB.out)) | (rw [if_neg (by decide)]; exact IsS58.below HI.out (by repeat (first | (with_reducible first | exact HB.out | apply below_alloc | apply pw_below_drewN | apply below_drew1) | exact HB.out))), below_step HBB.out (by repeat (first | (with_reducible first | exact HB.out | apply below_alloc | apply pw_below_drewN | apply below_drew1) | exact HB.out)), KeepBut.of_below (by repeat (first | (with_reducible first | exact HB.out | apply below_alloc | apply pw_below_drewN | apply below_drew1) | exact HB.out)) _ _⟩
     ·rw [if_neg c76] at H
      have c76b0 : decide (0 ≤ t143) = false := decide_eq_false c76
      clear c76
      simp only [Option.some.injEq, Prod.mk.injEq] at H
      obtain ⟨rfl, rfl, rfl⟩ := H
      obtain ⟨Ao79, co79, eo79⟩ := Kd.R_slice HO_7.out
      subst eo79
      go_wp2_with (first | ((with_reducible refine gate_callee (f := 36) rfl ?_); refine goesL_ (some 71) rfl rfl Try.func36 (by kernel_rfl) rfl #[.slice Ao79 x7_1.length co79] rfl (by (try simp only [List.map_toArray, List.map_cons, List.map_nil]); first | done | rfl | (simp only [List.length_drop, List.length_take]; rfl)) ?_; (with_reducible refine (collect_late.calls k1 _ _ x7_1 t143 _ ?side1 ?side2 A75.out).mono ?_); (case side1 => repeat (first | exact (Kd.R_reads' HO_7.out).2.2 | (with_reducible refine Kd.C_alloc ?_ _) | (with_reducible refine Kd.C_drewN ?_ _) | (with_reducible refine Kd.C_drew ?_))); (case side2 => exact (Kd.R_reads' HO_7.out).2.1); rintro e w80 ⟨rfl, hb⟩; refine ⟨_, rfl, ?_⟩; have n0_ := Aside0.mk (Kd.R_below (by (with_reducible repeat (first | apply Kd.R_alloc | apply Kd.R_drewN | apply Kd.R_drew)); exact HO_7.out) hb); have n1_ := Aside0.mk (below_step (by repeat (first | (with_reducible first | exact HB.out | apply below_alloc | apply pw_below_drewN | apply below_drew1) | exact HB.out)) hb); clear HO_7; clear HB; have HO_7 := n0_; have HB := n1_; clear n0_ n1_; (try clear hb); (try clear hb2); (try clear hk); (try clear hi); have hbg := blk_below BKG.out HB.out; have hczg8 : World.cell? _ ⟨g, 0, none⟩ = some (Value.slice A0 l0.length c0) := (blk_cell hbg 0).trans rfl; have hfzg := blk_frozen hbg 0))
      go_ret2
      have hge := HI.out.ge
      have HX := Kd.R_types (Kd.R_lower HO_7.out HBB.out.size) hbg (by decide)
      exact ⟨by first | rfl | (simp [errW_none, errW_some] <;> rfl), by first | exact ⟨_, blk_put (cs' := _) hbg 0 _ rfl, hge, Kd.R_mono (Kd.R_far (p := ⟨g, 0, none⟩) HX (fun _ hk => hk.2) _) (fun _ hk => hk.2)⟩ | (rw [if_pos rfl]; exact ⟨_, blk_put (cs' := _) hbg 0 _ rfl, hge, Kd.R_mono (Kd.R_far (p := ⟨g, 0, none⟩) HX (fun _ hk => hk.2) _) (fun _ hk => hk.2)⟩), below_set (below_step HBB.out (by repeat (first | (with_reducible first | exact HB.out | apply below_alloc | apply pw_below_drewN | apply below_drew1) | exact HB.out))) hge, KeepBut.set_ (KeepBut.of_below (by repeat (first | (with_reducible first | exact HB.out | apply below_alloc | apply pw_below_drewN | apply below_drew1) | exact HB.out)) _ _) 0 _⟩
 ·rw [if_neg c4] at H
  have c4b0 : (t138 == 0) = false := beq_eq_false_iff_ne.mpr c4
  have c4b1 : (t138 != 0) = true := bne_iff_ne.mpr c4
  simp only [Option.some.injEq, Prod.mk.injEq] at H
  obtain ⟨rfl, rfl, rfl⟩ := H
  go_enter Try.func13, Try.ntmps13
  go_wp2_with (first | ((with_reducible refine gate_callee (f := 21) rfl ?_); refine goesL_ (some 13) rfl rfl Try.func21 (by kernel_rfl) rfl #[.slice A1 l1.length c1] rfl (by (try simp only [List.map_toArray, List.map_cons, List.map_nil]); first | done | rfl | (simp only [List.length_drop, List.length_take]; rfl)) ?_; (with_reducible refine (collect_Check.calls k _ _ l1 t138 _ ?side1 ?side2 A3.out).mono ?_); (case side1 => repeat (first | exact HR1.out | (with_reducible refine Kd.C_alloc ?_ _) | (with_reducible refine Kd.C_drewN ?_ _) | (with_reducible refine Kd.C_drew ?_))); (case side2 => exact HC1.out); rintro e w81 ⟨rfl, hb⟩; refine ⟨_, rfl, ?_⟩; have n0_ := Aside0.mk (below_step (by repeat (first | (with_reducible first | exact HB.out | apply below_alloc | apply pw_below_drewN | apply below_drew1) | exact HB.out)) hb); clear HB; have HB := n0_; clear n0_; (try clear hb); (try clear hb2); (try clear hk); (try clear hi)))
  go_ret2
  exact ⟨by first | rfl | (simp [errW_none, errW_some] <;> rfl), by first | exact IsS58.below HI.out (by repeat (first | (with_reducible first | exact HB.out | apply below_alloc | apply pw_below_drewN | apply below_drew1) | exact HB.out)) | (rw [if_neg (c4)]; exact IsS58.below HI.out (by repeat (first | (with_reducible first | exact HB.out | apply below_alloc | apply pw_below_drewN | apply below_drew1) | exact HB.out))), below_step HBB.out (by repeat (first | (with_reducible first | exact HB.out | apply below_alloc | apply pw_below_drewN | apply below_drew1) | exact HB.out)), KeepBut.of_below (by repeat (first | (with_reducible first | exact HB.out | apply below_alloc | apply pw_below_drewN | apply below_drew1) | exact HB.out)) _ _⟩

def collect_Collector_Take.f (k : Nat) (s0_0 : List (S42)) (l1 : List (S42)) : Option (Int × Int × List (S42)) := (collect_Collector_Take.g k s0_0 l1).bind fun p => some (p.1, p.2.1, if p.2.1 = 0 then p.2.2 else s0_0)
theorem collect_Collector_Take.mono : ∀ a0 a1 k, LeO (collect_Collector_Take.f k a0 a1) (collect_Collector_Take.f (k + 1) a0 a1) := by
 intro a0 a1 k
 unfold collect_Collector_Take.f
 exact LeO.bind (collect_Collector_Take.monog _ _ _) (fun _ => LeO.refl _)
theorem collect_Collector_Take.calls (k : Nat) (g : Nat) (s0_0 : List (S42)) (A1 : Option Addr) (c1 : Nat) (l1 : List (S42)) (r1 : Int) (r2 : Int) (r3 : List (S42)) (w0 w : World) (hI : IsS58 w0 w g s0_0) (hB : Below w0.heap.size w0 w) (hr1 : ∀ W_, KeepBut w W_ g none → Kd.C k42 W_ A1 l1.length l1) (hc1 : l1.length ≤ c1) (h : collect_Collector_Take.f k s0_0 l1 = some (r1, r2, r3)) :
  Calls Try.prog 13 #[.pointer (some ⟨g, 0, none⟩), .slice A1 l1.length c1] w fun e w' => e = .returned (.tuple #[.int .i64 r1, .int .i64 r2]) ∧ IsS58 w0 w' g r3 ∧ Below w0.heap.size w0 w' ∧ KeepBut w w' g none := by
 obtain ⟨⟨n, e, o⟩, h1, h2⟩ := Option.bind_eq_some_iff.mp h
 simp only [Option.some.injEq, Prod.mk.injEq] at h2
 obtain ⟨rfl, rfl, rfl⟩ := h2
 exact collect_Collector_Take.calls0 k g s0_0 A1 c1 l1 n e o w0 w hI hB (hr1 w (KeepBut.refl w g none)) hc1 h1


/-! ### collect_Collector_Lost: function 17 -/
def collect_Collector_Lost.l0 : Nat → List (S42) → Int → Int → Option (Int)
 | 0, _, _, _ => none
 | k + 1, l, n, i => if i < (l.length : Int) then (if 0 ≤ i then collect_Collector_Lost.l0 k l (wrap64 (n + (rd_T42 l i).f4)) (wrap64 (i + 1)) else none) else some n
def collect_Collector_Lost.f (k : Nat) (s0_0 : List (S42)) : Option (Int × List (S42)) := (collect_Collector_Lost.l0 k s0_0 0 0).bind fun n => some (n, s0_0)
theorem collect_Collector_Lost.mono_l : ∀ k y0 y1 y2, LeO (collect_Collector_Lost.l0 k y0 y1 y2) (collect_Collector_Lost.l0 (k + 1) y0 y1 y2)
 | 0 => fun _ _ _ r h => by simp [collect_Collector_Lost.l0] at h
 | k + 1 => by
  have ih0 := collect_Collector_Lost.mono_l k
  intro y0 y1 y2
  unfold collect_Collector_Lost.l0
  exact LeO.ite (LeO.ite (ih0 _ _ _) (LeO.refl _)) (LeO.refl _)
theorem collect_Collector_Lost.mono : ∀ a0 k, LeO (collect_Collector_Lost.f k a0) (collect_Collector_Lost.f (k + 1) a0) := by
 intro a0 k
 unfold collect_Collector_Lost.f
 exact LeO.bind (collect_Collector_Lost.mono_l k _ _ _) (fun _ => LeO.refl _)
set_option maxHeartbeats 8000000 in
set_option maxRecDepth 100000 in
theorem collect_Collector_Lost.calls (k : Nat) (g : Nat) (s0_0 : List (S42)) (r1 : Int) (r2 : List (S42)) (w0 w : World) (hI : IsS58 w0 w g s0_0) (hB : Below w0.heap.size w0 w) (h : collect_Collector_Lost.f k s0_0 = some (r1, r2)) :
  Calls Try.prog 17 #[.pointer (some ⟨g, 0, none⟩)] w fun e w' => e = .returned (.int .i64 r1) ∧ IsS58 w0 w' g r2 ∧ Below w0.heap.size w0 w' ∧ KeepBut w w' g none := by
 have HI := Aside0.mk hI
 have HBB := Aside0.mk hB
 obtain ⟨A0, c0, hb, hc0, hr0, -⟩ := hI.open_
 have hcz : w.cell? ⟨g, 0, none⟩ = some (.slice A0 s0_0.length c0) := (blk_cell hb 0).trans rfl
 have HR0 := Aside0.mk hr0
 have HC0 := Aside0.mk hc0
 have HB := Aside0.mk (Below.refl w.heap.size w)
 clear hI hB hb hr0 hc0
 have H : (collect_Collector_Lost.l0 k s0_0 0 0).bind (fun n => some (n, s0_0)) = some (r1, r2) := h
 clear h
 replace H := Option.bind_eq_some_iff.mp H
 obtain ⟨t, H0, H⟩ := H
 simp only [Option.some.injEq, Prod.mk.injEq] at H
 obtain ⟨rfl, rfl⟩ := H
 have H' := Aside0.mk H0
 clear H0
 go_enter Try.func17, Try.ntmps17
 go_wp2
 go_loopg [3, 11] k (fun kq v3 v11 w' => ∃ (x3_1 : Int) (x11_1 : Int), v3 = .int .i64 x3_1 ∧ v11 = .int .i64 x11_1 ∧ Aside0 (collect_Collector_Lost.l0 kq s0_0 x3_1 x11_1 = some t) ∧ Aside0 (kq ≤ k) ∧ Aside0 (Below w.heap.size w w'))
 case atStart => exact ⟨(0), (0), rfl, rfl, H', ⟨Nat.le_refl _⟩, ⟨(by repeat (first | (with_reducible first | exact HB.out | apply below_alloc | apply pw_below_drewN | apply below_drew1) | exact HB.out))⟩⟩
 case round =>
  clear H'
  obtain ⟨x3_1, x11_1, rfl, rfl, HA, HK1, HB⟩ := hrel
  cases gk with
  | zero => exact absurd HA.out (by simp [collect_Collector_Lost.l0])
  | succ k1 =>
   have H := HA.out
   clear HA
   simp only [collect_Collector_Lost.l0] at H
   by_cases c2 : x11_1 < (s0_0.length : Int)
   ·rw [if_pos c2] at H
    have c2b0 : decide (x11_1 < (s0_0.length : Int)) = true := decide_eq_true c2
    by_cases c3 : 0 ≤ x11_1
    ·rw [if_pos c3] at H
     have H' := Aside0.mk H
     clear H
     obtain ⟨ad144, e144, hx144_0, hx144_1, hx144_2, hx144_3, hx144_4, hx144_5⟩ := at_T42 HR0.out x11_1 c3 c2
     cases e144
     replace hx144_0 := (HB.out.cell (World.block_lt_of_cell? w _ hx144_0)).trans hx144_0
     replace hx144_1 := (HB.out.cell (World.block_lt_of_cell? w _ hx144_1)).trans hx144_1
     replace hx144_2 := (HB.out.cell (World.block_lt_of_cell? w _ hx144_2)).trans hx144_2
     replace hx144_3 := (HB.out.cell (World.block_lt_of_cell? w _ hx144_3)).trans hx144_3
     replace hx144_4 := (HB.out.cell (World.block_lt_of_cell? w _ hx144_4)).trans hx144_4
     replace hx144_5 := (HB.out.cell (World.block_lt_of_cell? w _ hx144_5)).trans hx144_5
     have p144 := eq_true c3
     have q144 := eq_true c2
     clear c2 c3
     go_wp2_with (first | ((with_reducible refine gate_dst (N := 5) rfl ?_); refine box_event ?hg (N := 5) ?hd (cs := #[.int .i64 0, .int .i64 0, .int .i64 0, .int .i64 0, .int .i64 0, .int .i64 0]) (t := 42) ?hr ?_; (case hd => rfl); (case hg => rfl); (case hr => first | (go_simp; done) | (go_simp; rfl)); intro gb145 hg w14 hbox hb; have n1_ := Aside0.mk (below_step (by repeat (first | (with_reducible first | exact HB.out | apply below_alloc | apply pw_below_drewN | apply below_drew1) | exact HB.out)) hb); have n2_ := Aside0.mk (hbox); have n4_ := Aside0.mk ((by rw [hg]; exact (below_size (by repeat (first | (with_reducible first | exact HB.out | apply below_alloc | apply pw_below_drewN | apply below_drew1) | exact HB.out))) : w.heap.size ≤ gb145)); clear HB; have HB := n1_; have BK145 := n2_; have GE145 := n4_; clear n1_ n2_ n4_; clear hb hbox hg; have hcz15_0 : w14.cell? ⟨gb145, 0, none⟩ = some (.int .i64 0) := (blk_cell BK145.out 0).trans rfl; have hcz15_1 : w14.cell? ⟨gb145, 1, none⟩ = some (.int .i64 0) := (blk_cell BK145.out 1).trans rfl; have hcz15_2 : w14.cell? ⟨gb145, 2, none⟩ = some (.int .i64 0) := (blk_cell BK145.out 2).trans rfl; have hcz15_3 : w14.cell? ⟨gb145, 3, none⟩ = some (.int .i64 0) := (blk_cell BK145.out 3).trans rfl; have hcz15_4 : w14.cell? ⟨gb145, 4, none⟩ = some (.int .i64 0) := (blk_cell BK145.out 4).trans rfl; have hcz15_5 : w14.cell? ⟨gb145, 5, none⟩ = some (.int .i64 0) := (blk_cell BK145.out 5).trans rfl; have hfz15_0 := blk_frozen BK145.out 0; have hfz15_1 := blk_frozen BK145.out 1; have hfz15_2 := blk_frozen BK145.out 2; have hfz15_3 := blk_frozen BK145.out 3; have hfz15_4 := blk_frozen BK145.out 4; have hfz15_5 := blk_frozen BK145.out 5))
     go_roundg k1
     case measure => have := HK1.out; omega
     case rel => exact ⟨(wrap64 (x3_1 + ((rd_T42 s0_0 x11_1).f4))), (wrap64 (x11_1 + 1)), (by first | rfl | (simp; done) | (simp [*]; done)), (by first | rfl | (simp; done) | (simp [*]; done)), H', ⟨by have := HK1.out; omega⟩, ⟨by repeat (first | (with_reducible first | exact HB.out | apply below_alloc | apply pw_below_drewN | apply below_drew1 | refine below_set ?_ GE145.out) | exact HB.out)⟩⟩
    ·rw [if_neg c3] at H
     exact absurd H (by simp)
   ·rw [if_neg c2] at H
    have c2b0 : decide (x11_1 < (s0_0.length : Int)) = false := decide_eq_false c2
    clear c2
    obtain rfl := Option.some.inj H
    go_wp2
    go_ret
    exact ⟨rfl, IsS58.below HI.out (by repeat (first | (with_reducible first | exact HB.out | apply below_alloc | apply pw_below_drewN | apply below_drew1) | exact HB.out)), below_step HBB.out (by repeat (first | (with_reducible first | exact HB.out | apply below_alloc | apply pw_below_drewN | apply below_drew1) | exact HB.out)), KeepBut.of_below (by repeat (first | (with_reducible first | exact HB.out | apply below_alloc | apply pw_below_drewN | apply below_drew1) | exact HB.out)) _ _⟩


/-! ### collect_Collector_Records: function 20 -/
def collect_Collector_Records.f (s0_0 : List (S42)) : Option (List (S42) × List (S42)) := (api_Record_32.f s0_0).bind fun y => some (y, s0_0)
set_option maxHeartbeats 8000000 in
set_option maxRecDepth 100000 in
theorem collect_Collector_Records.calls (g : Nat) (s0_0 : List (S42)) (r1 : List (S42)) (r2 : List (S42)) (w0 w : World) (hI : IsS58 w0 w g s0_0) (hB : Below w0.heap.size w0 w) (h : collect_Collector_Records.f s0_0 = some (r1, r2)) :
  Calls Try.prog 20 #[.pointer (some ⟨g, 0, none⟩)] w fun e w' => ∃ v0_ : Value, e = .returned (v0_) ∧ Kd.R k42 42 w' w.heap.size (fun _ => True) v0_ r1 ∧ IsS58 w0 w' g r2 ∧ Below w0.heap.size w0 w' ∧ KeepBut w w' g none := by
 have HI := Aside0.mk hI
 have HBB := Aside0.mk hB
 obtain ⟨A0, c0, hb, hc0, hr0, -⟩ := hI.open_
 have hcz : w.cell? ⟨g, 0, none⟩ = some (.slice A0 s0_0.length c0) := (blk_cell hb 0).trans rfl
 have HR0 := Aside0.mk hr0
 have HC0 := Aside0.mk hc0
 have HB := Aside0.mk (Below.refl w.heap.size w)
 clear hI hB hb hr0 hc0
 have H : (api_Record_32.f s0_0).bind (fun n => some (n, s0_0)) = some (r1, r2) := h
 clear h
 replace H := Option.bind_eq_some_iff.mp H
 obtain ⟨t, A10, H⟩ := H
 have A1 := Aside0.mk A10
 clear A10
 simp only [Option.some.injEq, Prod.mk.injEq] at H
 obtain ⟨rfl, rfl⟩ := H
 go_enter Try.func20, Try.ntmps20
 go_wp2_with (first | ((with_reducible refine gate_callee (f := 32) rfl ?_); refine goesL_ (some 7) rfl rfl Try.func32 (by kernel_rfl) rfl #[.slice A0 s0_0.length c0] rfl (by (try simp only [List.map_toArray, List.map_cons, List.map_nil]); first | done | rfl | (simp only [List.length_drop, List.length_take]; rfl)) ?_; (with_reducible refine (api_Record_32.calls _ _ s0_0 t _ ?side1 ?side2 A1.out).mono ?_); (case side1 => repeat (first | exact (Kd.C_below HR0.out HB.out) | (with_reducible refine Kd.C_alloc ?_ _) | (with_reducible refine Kd.C_drewN ?_ _) | (with_reducible refine Kd.C_drew ?_))); (case side2 => exact HC0.out); rintro e w8 ⟨v140, rfl, ho0, hb⟩; refine ⟨_, rfl, ?_⟩; have n0_ := Aside0.mk (Kd.R_lower ho0 (below_size (by repeat (first | (with_reducible first | exact HB.out | apply below_alloc | apply pw_below_drewN | apply below_drew1) | exact HB.out)))); have n1_ := Aside0.mk (below_step (by repeat (first | (with_reducible first | exact HB.out | apply below_alloc | apply pw_below_drewN | apply below_drew1) | exact HB.out)) hb); clear HB; have HO141 := n0_; have HB := n1_; clear n0_ n1_; (try clear hb)))
 go_ret
 exact ⟨_, rfl, by (with_reducible repeat (first | apply Kd.R_alloc | apply Kd.R_drewN | apply Kd.R_drew)); exact HO141.out, IsS58.below HI.out (by repeat (first | (with_reducible first | exact HB.out | apply below_alloc | apply pw_below_drewN | apply below_drew1) | exact HB.out)), below_step HBB.out (by repeat (first | (with_reducible first | exact HB.out | apply below_alloc | apply pw_below_drewN | apply below_drew1) | exact HB.out)), KeepBut.of_below (by repeat (first | (with_reducible first | exact HB.out | apply below_alloc | apply pw_below_drewN | apply below_drew1) | exact HB.out)) _ _⟩

end Go.Proofs.Yteclemahimldeaa.K
