-- Written by pp.py (a program of this session, over the kit's print.py) out of the translation. Not trusted: Lean checks it.
import Derived.Test.YteclemahimldeaaQx0
import Derived.Test.YteclemahimldeaaQx2
import Derived.Test.YteclemahimldeaaQx8
import Derived.Test.YteclemahimldeaaQx9
import Derived.Test.YteclemahimldeaaQx10
import Derived.Test.YteclemahimldeaaQx11
namespace Go.Proofs.Yteclemahimldeaa.Q
open Go.RowKit Go.Proofs.YteclemahimldeaaW.PrintWords Go.Proofs.YteclemahimldeaaW.PrintLast Go.Proofs.YteclemahimldeaaW.PrintMore
attribute [local go_sem] max2_int min2_int max_two min_two max_three min_three max_four min_four   -- for this text's walks alone
attribute [local go_sem] pp_mod256 pp_mod256_w
set_option linter.unusedVariables false
set_option linter.unusedSimpArgs false

attribute [local go_sem high] eqA42
/-! ### plenumref42_Take: function 14 -/
mutual
def plenumref42_Take.l0 : Nat → List (S42) → List (S42) → List (S42) → Int → Int → Option ((List (S42)) × Int × Int)
 | 0, _, _, _, _, _ => none
 | k + 1, x0, x1, x8, x9, x10 => if x10 < (x1.length : Int) then (if 0 ≤ x10 then ((plenumref42_Asks.f x8).bind fun t242 => (if ((rd_T42 x1 x10).f0) < t242 then (plenumref42_Take.l0 k x0 x1 x8 x9 (wrap64 (x10 + 1))) else ((plenumref42_First.f ((rd_T42 x1 x10).f0) ((rd_T42 x1 x10).f1) ((rd_T42 x1 x10).f2.f0) ((rd_T42 x1 x10).f2.f1) ((rd_T42 x1 x10).f3) ((rd_T42 x1 x10).f4)).bind fun t243 => (if t243 > t242 then ((plenumref42_First.f ((rd_T42 x1 x10).f0) ((rd_T42 x1 x10).f1) ((rd_T42 x1 x10).f2.f0) ((rd_T42 x1 x10).f2.f1) ((rd_T42 x1 x10).f3) ((rd_T42 x1 x10).f4)).bind fun t244 => ((plenumref42_gap.f t242 (wrap64 (t244 - 1))).bind fun bt245 => ((plenumref42_add.f k x8 bt245.1 bt245.2.1 bt245.2.2.1 bt245.2.2.2.1 bt245.2.2.2.2.1 bt245.2.2.2.2.2).bind fun t251 => (plenumref42_Take.j1 k x0 x1 t251 x9 x10 t242 ((rd_T42 x1 x10).f0) ((rd_T42 x1 x10).f1) ((rd_T42 x1 x10).f2.f0) ((rd_T42 x1 x10).f2.f1) ((rd_T42 x1 x10).f3) ((rd_T42 x1 x10).f4))))) else (plenumref42_Take.j1 k x0 x1 x8 x9 x10 t242 ((rd_T42 x1 x10).f0) ((rd_T42 x1 x10).f1) ((rd_T42 x1 x10).f2.f0) ((rd_T42 x1 x10).f2.f1) ((rd_T42 x1 x10).f3) ((rd_T42 x1 x10).f4)))))) else (none)) else ((plenumref42_Rising.f k x8).bind fun t239 => (if t239 = true then (some (x8, x9, 0)) else (some (x0, 0, 15))))
def plenumref42_Take.j1 : Nat → List (S42) → List (S42) → List (S42) → Int → Int → Int → Int → Int → Int → Int → Int → Int → Option ((List (S42)) × Int × Int)
 | 0, _, _, _, _, _, _, _, _, _, _, _, _ => none
 | k + 1, x0, x1, x8, x9, x10, x12, x242000, x242001, x242002, x242003, x242004, x242005 => if x242005 > 0 then ((plenumref42_First.f x242000 x242001 x242002 x242003 x242004 x242005).bind fun t254 => ((plenumref42_gap.f (mx x12 t254) x242000).bind fun bt255 => ((plenumref42_add.f k x8 bt255.1 bt255.2.1 bt255.2.2.1 bt255.2.2.2.1 bt255.2.2.2.2.1 bt255.2.2.2.2.2).bind fun t261 => (plenumref42_Take.l0 k x0 x1 t261 x9 (wrap64 (x10 + 1)))))) else ((plenumref42_add.f k x8 x242000 x242001 x242002 x242003 x242004 x242005).bind fun t264 => (plenumref42_Take.l0 k x0 x1 t264 (wrap64 (x9 + 1)) (wrap64 (x10 + 1))))
end
def plenumref42_Take.f (k : Nat) (l0 : List (S42)) (l1 : List (S42)) : Option ((List (S42)) × Int × Int) := (plenumref42_Check.f k l1).bind fun t238 => (if t238 = 0 then (plenumref42_Take.l0 k l0 l1 l0 0 0) else (some (l0, 0, t238)))
theorem plenumref42_Take.mono_l : ∀ k, (∀ y0 y1 y2 y3 y4, LeO (plenumref42_Take.l0 k y0 y1 y2 y3 y4) (plenumref42_Take.l0 (k + 1) y0 y1 y2 y3 y4)) ∧ (∀ y0 y1 y2 y3 y4 y5 y6 y7 y8 y9 y10 y11, LeO (plenumref42_Take.j1 k y0 y1 y2 y3 y4 y5 y6 y7 y8 y9 y10 y11) (plenumref42_Take.j1 (k + 1) y0 y1 y2 y3 y4 y5 y6 y7 y8 y9 y10 y11))
 | 0 => ⟨fun _ _ _ _ _ r h => by simp [plenumref42_Take.l0] at h, fun _ _ _ _ _ _ _ _ _ _ _ _ r h => by simp [plenumref42_Take.j1] at h⟩
 | k + 1 => by
  obtain ⟨ih0, ih1⟩ := plenumref42_Take.mono_l k
  refine ⟨?_, ?_⟩
  ·intro y0 y1 y2 y3 y4
   unfold plenumref42_Take.l0
   repeat' first
   | (with_reducible exact ih0 _ _ _ _ _)
   | (with_reducible exact ih1 _ _ _ _ _ _ _ _ _ _ _ _)
   | (with_reducible exact plenumref42_Check.mono _ _)
   | (with_reducible exact plenumref42_Rising.mono _ _)
   | (with_reducible exact plenumref42_add.mono _ _ _ _ _ _ _ _)
   | (with_reducible exact LeO.refl _)
   | (with_reducible exact LeO.none _)
   | (with_reducible refine LeO.ite ?_ ?_)
   | (with_reducible refine LeO.bind ?_ (fun _ => ?_))
   | exact ih0 _ _ _ _ _
   | exact ih1 _ _ _ _ _ _ _ _ _ _ _ _
   | exact plenumref42_Check.mono _ _
   | exact plenumref42_Rising.mono _ _
   | exact plenumref42_add.mono _ _ _ _ _ _ _ _
   | exact LeO.none _
   | refine LeO.ite ?_ ?_
   | refine LeO.bind ?_ (fun _ => ?_)
  ·intro y0 y1 y2 y3 y4 y5 y6 y7 y8 y9 y10 y11
   unfold plenumref42_Take.j1
   repeat' first
   | (with_reducible exact ih0 _ _ _ _ _)
   | (with_reducible exact ih1 _ _ _ _ _ _ _ _ _ _ _ _)
   | (with_reducible exact plenumref42_Check.mono _ _)
   | (with_reducible exact plenumref42_Rising.mono _ _)
   | (with_reducible exact plenumref42_add.mono _ _ _ _ _ _ _ _)
   | (with_reducible exact LeO.refl _)
   | (with_reducible exact LeO.none _)
   | (with_reducible refine LeO.ite ?_ ?_)
   | (with_reducible refine LeO.bind ?_ (fun _ => ?_))
   | exact ih0 _ _ _ _ _
   | exact ih1 _ _ _ _ _ _ _ _ _ _ _ _
   | exact plenumref42_Check.mono _ _
   | exact plenumref42_Rising.mono _ _
   | exact plenumref42_add.mono _ _ _ _ _ _ _ _
   | exact LeO.none _
   | refine LeO.ite ?_ ?_
   | refine LeO.bind ?_ (fun _ => ?_)
theorem plenumref42_Take.mono : ∀ a0 a1 k, LeO (plenumref42_Take.f k a0 a1) (plenumref42_Take.f (k + 1) a0 a1) := by
 intro a0 a1 k
 obtain ⟨ih0, ih1⟩ := plenumref42_Take.mono_l k
 unfold plenumref42_Take.f
 repeat' first
   | (with_reducible exact ih0 _ _ _ _ _)
   | (with_reducible exact ih1 _ _ _ _ _ _ _ _ _ _ _ _)
   | (with_reducible exact plenumref42_Check.mono _ _)
   | (with_reducible exact plenumref42_Rising.mono _ _)
   | (with_reducible exact plenumref42_add.mono _ _ _ _ _ _ _ _)
   | (with_reducible exact LeO.refl _)
   | (with_reducible exact LeO.none _)
   | (with_reducible refine LeO.ite ?_ ?_)
   | (with_reducible refine LeO.bind ?_ (fun _ => ?_))
   | exact ih0 _ _ _ _ _
   | exact ih1 _ _ _ _ _ _ _ _ _ _ _ _
   | exact plenumref42_Check.mono _ _
   | exact plenumref42_Rising.mono _ _
   | exact plenumref42_add.mono _ _ _ _ _ _ _ _
   | exact LeO.none _
   | refine LeO.ite ?_ ?_
   | refine LeO.bind ?_ (fun _ => ?_)
def plenumref42_Take.T15 : Bool × List (List Nat × List Nat) := (true, [([], []), ([], []), ([1], [1]), ([0, 2], [0, 2]), ([], []), ([4], [4]), ([3, 5, 2], [3, 5]), ([6, 6, 0, 1, 2, 3, 4, 5, 6], [6])])
def plenumref42_Take.B15 : List Nat := [0, 0, 2, 7, 0, 16, 63, 127]
theorem plenumref42_Take.tab15 : rtab .any (opsOf Try.f14 15) = plenumref42_Take.T15 := by kernel_rfl
theorem plenumref42_Take.bits15 : waitsOk plenumref42_Take.T15.2 plenumref42_Take.B15 = true := by kernel_rfl
set_option maxHeartbeats 8000000 in
set_option maxRecDepth 100000 in
theorem plenumref42_Take.calls (k : Nat) (P0_ : Nat → Prop) (A0 : Option Addr) (c0 : Nat) (l0 : List (S42)) (A1 : Option Addr) (c1 : Nat) (l1 : List (S42)) (r1 : List (S42)) (r2 : Int) (r3 : Int) (w : World) (hs0 : Kd.V k42 42 w w.heap.size (fun k_ => P0_ k_) (.slice A0 l0.length c0) l0) (hr1 : Kd.C k42 w A1 l1.length l1) (hc1 : l1.length ≤ c1) (h : plenumref42_Take.f k l0 l1 = some (r1, r2, r3)) :
  Calls Try.prog 14 #[.slice A0 l0.length c0, .slice A1 l1.length c1] w fun e w' => ∃ v0_ : Value, e = .returned (.tuple #[v0_, .int .i64 r2, .int .i64 r3]) ∧ Kd.V k42 42 w' w.heap.size (fun k_ => (P0_ k_ ∨ w.heap.size ≤ k_)) v0_ r1 ∧ Below w.heap.size w w' := by
 have hu42 := Try.underlying42
 have HO0 := Aside0.mk (show Kd.V k42 42 w w.heap.size (fun k_ => (P0_ k_ ∨ w.heap.size ≤ k_)) (.slice A0 l0.length c0) l0 from Kd.V_mono hs0 (fun k_ hk => .inl hk))
 have HR1 := Aside0.mk hr1
 have HC1 := Aside0.mk hc1
 clear hr1 hc1
 have HB := Aside0.mk (Below.refl w.heap.size w)
 have H : ((plenumref42_Check.f k l1).bind fun t238 => (if t238 = 0 then (plenumref42_Take.l0 k l0 l1 l0 0 0) else (some (l0, 0, t238)))) = some (r1, r2, r3) := h
 clear h
 replace H := Option.bind_eq_some_iff.mp H
 obtain ⟨t238, A30, H⟩ := H
 replace H : (if t238 = 0 then (plenumref42_Take.l0 k l0 l1 l0 0 0) else (some (l0, 0, t238))) = some (r1, r2, r3) := H
 have A3 := Aside0.mk A30
 clear A30
 by_cases c4 : t238 = 0
 ·rw [if_pos c4] at H
  have c4b0 : (t238 == 0) = true := beq_iff_eq.mpr c4
  have c4b1 : (t238 != 0) = false := bne_eq_false_iff_eq.mpr c4
  clear c4
  have H' := Aside0.mk H
  clear H
  go_enter Try.func14, Try.ntmps14
  go_wp2_with (first | ((with_reducible refine gate_callee (f := 25) rfl ?_); refine goesL_ (some 14) rfl rfl Try.func25 (by kernel_rfl) rfl #[.slice A1 l1.length c1] rfl (by (try simp only [List.map_toArray, List.map_cons, List.map_nil]); first | done | rfl | (simp only [List.length_drop, List.length_take]; rfl)) ?_; (with_reducible refine (plenumref42_Check.calls k _ _ l1 t238 _ ?side1 ?side2 A3.out).mono ?_); (case side1 => repeat (first | exact HR1.out | (with_reducible refine Kd.C_alloc ?_ _) | (with_reducible refine Kd.C_drewN ?_ _) | (with_reducible refine Kd.C_drew ?_))); (case side2 => exact HC1.out); rintro e w5 ⟨rfl, hb⟩; refine ⟨_, rfl, ?_⟩; have n0_ := Aside0.mk (Kd.V_below (by (with_reducible repeat (first | apply Kd.V_alloc | apply Kd.V_drewN | apply Kd.V_drew)); exact HO0.out) hb); have n1_ := Aside0.mk (below_step (by repeat (first | (with_reducible first | exact HB.out | apply below_alloc | apply pw_below_drewN | apply below_drew1) | exact HB.out)) hb); clear HO0; clear HB; have HO0 := n0_; have HB := n1_; clear n0_ n1_; (try clear hb); (try clear hb2); (try clear hk); (try clear hi)))
  go_loopg [8, 9, 10] k (fun kq v8 v9 v10 w' => ∃ (x8_1 : List (S42)) (x9_1 : Int) (x10_1 : Int), v9 = .int .i64 x9_1 ∧ v10 = .int .i64 x10_1 ∧ Aside0 (plenumref42_Take.l0 kq l0 l1 x8_1 x9_1 x10_1 = some (r1, r2, r3)) ∧ Aside0 (kq ≤ k) ∧ Aside0 (Kd.V k42 42 w' w.heap.size (fun k_ => (P0_ k_ ∨ w.heap.size ≤ k_)) (.slice A0 l0.length c0) l0) ∧ Aside0 (Kd.V k42 42 w' w.heap.size (fun k_ => (P0_ k_ ∨ w.heap.size ≤ k_)) v8 x8_1) ∧ Aside0 (Below w.heap.size w w'))
  case atStart => exact ⟨(l0), (0), (0), (by first | rfl | (simp; done) | (simp [*]; done)), (by first | rfl | (simp; done) | (simp [*]; done)), H', ⟨Nat.le_refl _⟩, ⟨by (with_reducible repeat (first | apply Kd.V_alloc | apply Kd.V_drewN | apply Kd.V_drew)); exact HO0.out⟩, ⟨by (with_reducible repeat (first | apply Kd.V_alloc | apply Kd.V_drewN | apply Kd.V_drew)); exact HO0.out⟩, ⟨by repeat (first | (with_reducible first | exact HB.out | apply below_alloc | apply pw_below_drewN | apply below_drew1) | exact HB.out)⟩⟩
  case round =>
   clear H'
   try clear c1
   try clear c2
   try clear p2
   try clear c4
   try clear c4b0
   try clear c4b1
   obtain ⟨x8_1, x9_1, x10_1, rfl, rfl, HA, HK1, HO_0, HO_8, HB⟩ := hrel
   cases gk with
   | zero => exact absurd HA.out (by simp [plenumref42_Take.l0])
   | succ k1 =>
    have H := HA.out
    clear HA
    simp only [plenumref42_Take.l0] at H
    by_cases c6 : x10_1 < (l1.length : Int)
    ·rw [if_pos c6] at H
     have c6b0 : decide (x10_1 < (l1.length : Int)) = true := decide_eq_true c6
     clear c6
     by_cases c7 : 0 ≤ x10_1
     ·rw [if_pos c7] at H
      have c7b0 : decide (0 ≤ x10_1) = true := decide_eq_true c7
      clear c7
      replace H := Option.bind_eq_some_iff.mp H
      obtain ⟨t242, A80, H⟩ := H
      replace H : (if ((rd_T42 l1 x10_1).f0) < t242 then (plenumref42_Take.l0 k1 l0 l1 x8_1 x9_1 (wrap64 (x10_1 + 1))) else ((plenumref42_First.f ((rd_T42 l1 x10_1).f0) ((rd_T42 l1 x10_1).f1) ((rd_T42 l1 x10_1).f2.f0) ((rd_T42 l1 x10_1).f2.f1) ((rd_T42 l1 x10_1).f3) ((rd_T42 l1 x10_1).f4)).bind fun t243 => (if t243 > t242 then ((plenumref42_First.f ((rd_T42 l1 x10_1).f0) ((rd_T42 l1 x10_1).f1) ((rd_T42 l1 x10_1).f2.f0) ((rd_T42 l1 x10_1).f2.f1) ((rd_T42 l1 x10_1).f3) ((rd_T42 l1 x10_1).f4)).bind fun t244 => ((plenumref42_gap.f t242 (wrap64 (t244 - 1))).bind fun bt245 => ((plenumref42_add.f k1 x8_1 bt245.1 bt245.2.1 bt245.2.2.1 bt245.2.2.2.1 bt245.2.2.2.2.1 bt245.2.2.2.2.2).bind fun t251 => (plenumref42_Take.j1 k1 l0 l1 t251 x9_1 x10_1 t242 ((rd_T42 l1 x10_1).f0) ((rd_T42 l1 x10_1).f1) ((rd_T42 l1 x10_1).f2.f0) ((rd_T42 l1 x10_1).f2.f1) ((rd_T42 l1 x10_1).f3) ((rd_T42 l1 x10_1).f4))))) else (plenumref42_Take.j1 k1 l0 l1 x8_1 x9_1 x10_1 t242 ((rd_T42 l1 x10_1).f0) ((rd_T42 l1 x10_1).f1) ((rd_T42 l1 x10_1).f2.f0) ((rd_T42 l1 x10_1).f2.f1) ((rd_T42 l1 x10_1).f3) ((rd_T42 l1 x10_1).f4))))) = some (r1, r2, r3) := H
      have A8 := Aside0.mk A80
      clear A80
      by_cases c9 : ((rd_T42 l1 x10_1).f0) < t242
      ·rw [if_pos c9] at H
       have c9b0 : decide (((rd_T42 l1 x10_1).f0) < t242) = true := decide_eq_true c9
       clear c9
       have H' := Aside0.mk H
       clear H
       have p240 : 0 ≤ (x10_1 : Int) := of_decide_eq_true (by first | (with_reducible assumption) | assumption)
       have q240 : x10_1 < (l1.length : Int) := of_decide_eq_true (by first | (with_reducible assumption) | assumption)
       obtain ⟨ad240, e240, hx240_0, hx240_1, hx240_2, hx240_3, hx240_4, hx240_5⟩ := at_T42 HR1.out x10_1 p240 q240
       cases e240
       replace hx240_0 := (HB.out.cell (World.block_lt_of_cell? w _ hx240_0)).trans hx240_0
       replace hx240_1 := (HB.out.cell (World.block_lt_of_cell? w _ hx240_1)).trans hx240_1
       replace hx240_2 := (HB.out.cell (World.block_lt_of_cell? w _ hx240_2)).trans hx240_2
       replace hx240_3 := (HB.out.cell (World.block_lt_of_cell? w _ hx240_3)).trans hx240_3
       replace hx240_4 := (HB.out.cell (World.block_lt_of_cell? w _ hx240_4)).trans hx240_4
       replace hx240_5 := (HB.out.cell (World.block_lt_of_cell? w _ hx240_5)).trans hx240_5
       replace p240 := eq_true p240
       replace q240 := eq_true q240
       go_wp2_with (first | ((with_reducible refine gate_dst (N := 11) rfl ?_); refine box_event ?hg (N := 11) ?hd (cs := #[.int .i64 0, .int .i64 0, .int .i64 0, .int .i64 0, .int .i64 0, .int .i64 0]) (t := 42) ?hr ?_; (case hd => rfl); (case hg => rfl); (case hr => first | (go_simp; done) | (go_simp; rfl)); intro gb241 hg w10 hbox hb; have n0_ := Aside0.mk (Kd.V_below (Kd.V_elderB (by (with_reducible repeat (first | apply Kd.V_alloc | apply Kd.V_drewN | apply Kd.V_drew)); exact HO_0.out) gb241 (Nat.le_of_eq hg.symm)) hb); have n1_ := Aside0.mk (Kd.V_below (Kd.V_elderB (by (with_reducible repeat (first | apply Kd.V_alloc | apply Kd.V_drewN | apply Kd.V_drew)); exact HO_8.out) gb241 (Nat.le_of_eq hg.symm)) hb); have n2_ := Aside0.mk (below_step (by repeat (first | (with_reducible first | exact HB.out | apply below_alloc | apply pw_below_drewN | apply below_drew1) | exact HB.out)) hb); have n3_ := Aside0.mk (hbox); have n4_ := Aside0.mk ((by rw [hg]; exact (below_size (by repeat (first | (with_reducible first | exact HB.out | apply below_alloc | apply pw_below_drewN | apply below_drew1) | exact HB.out))) : w.heap.size ≤ gb241)); have n5_ := Aside0.mk ((by rw [hg]; exact (below_size (by repeat (first | (with_reducible first | exact HB.out | apply below_alloc | apply pw_below_drewN | apply below_drew1) | exact HB.out))) : w.heap.size ≤ gb241)); clear HO_0; clear HO_8; clear HB; have HO_0 := n0_; have HO_8 := n1_; have HB := n2_; have BK241 := n3_; have GW241 := n4_; have GE241 := n5_; clear n0_ n1_ n2_ n3_ n4_ n5_; clear hb hbox hg; have hcz11_0 : w10.cell? ⟨gb241, 0, none⟩ = some (.int .i64 0) := (blk_cell BK241.out 0).trans rfl; have hcz11_1 : w10.cell? ⟨gb241, 1, none⟩ = some (.int .i64 0) := (blk_cell BK241.out 1).trans rfl; have hcz11_2 : w10.cell? ⟨gb241, 2, none⟩ = some (.int .i64 0) := (blk_cell BK241.out 2).trans rfl; have hcz11_3 : w10.cell? ⟨gb241, 3, none⟩ = some (.int .i64 0) := (blk_cell BK241.out 3).trans rfl; have hcz11_4 : w10.cell? ⟨gb241, 4, none⟩ = some (.int .i64 0) := (blk_cell BK241.out 4).trans rfl; have hcz11_5 : w10.cell? ⟨gb241, 5, none⟩ = some (.int .i64 0) := (blk_cell BK241.out 5).trans rfl; have hfz11_0 := blk_frozen BK241.out 0; have hfz11_1 := blk_frozen BK241.out 1; have hfz11_2 := blk_frozen BK241.out 2; have hfz11_3 := blk_frozen BK241.out 3; have hfz11_4 := blk_frozen BK241.out 4; have hfz11_5 := blk_frozen BK241.out 5; obtain ⟨Ao12, co12, eo12⟩ := Kd.V_slice HO_8.out; subst eo12) | ((with_reducible refine gate_callee (f := 16) rfl ?_); refine goesL_ (some 31) rfl rfl Try.func16 (by kernel_rfl) rfl #[.slice Ao12 x8_1.length co12] rfl (by (try simp only [List.map_toArray, List.map_cons, List.map_nil]); first | done | rfl | (simp only [List.length_drop, List.length_take]; rfl)) ?_; (with_reducible refine (plenumref42_Asks.calls _ _ x8_1 t242 _ ?side1 ?side2 A8.out).mono ?_); (case side1 => refine (Kd.V_reads' (e := 42) (base := w.heap.size) (ok := fun k_ => ((P0_ k_ ∨ w.heap.size ≤ k_) ∧ k_ ≠ gb241)) (n := x8_1.length) (c := co12) ?_).2.2; exact (by (with_reducible repeat (first | apply Kd.V_alloc | apply Kd.V_drewN | apply Kd.V_drew)); exact (Kd.V_mono (Kd.V_far (p := ⟨gb241, 5, none⟩) (Kd.V_far (p := ⟨gb241, 4, none⟩) (Kd.V_far (p := ⟨gb241, 3, none⟩) (Kd.V_far (p := ⟨gb241, 2, none⟩) (Kd.V_far (p := ⟨gb241, 1, none⟩) (Kd.V_far (p := ⟨gb241, 0, none⟩) (Kd.V_mono HO_8.out (fun k_ hk => (⟨hk, hk.2⟩ : _ ∧ k_ ≠ gb241))) (fun _ hk => hk.2) (.int .i64 ((rd_T42 l1 x10_1).f0))) (fun _ hk => hk.2) (.int .i64 ((rd_T42 l1 x10_1).f1))) (fun _ hk => hk.2) (.int .i64 ((rd_T42 l1 x10_1).f2.f0))) (fun _ hk => hk.2) (.int .i64 ((rd_T42 l1 x10_1).f2.f1))) (fun _ hk => hk.2) (.int .i64 ((rd_T42 l1 x10_1).f3))) (fun _ hk => hk.2) (.int .i64 ((rd_T42 l1 x10_1).f4))) (fun _ h_ => h_.1)))); (case side2 => exact (Kd.V_reads' HO_8.out).2.1); rintro e w' ⟨rfl, ⟨nd, rfl⟩⟩; refine ⟨_, rfl, ?_⟩))
       go_roundg k1
       case measure => have := HK1.out; omega
       case rel => exact ⟨(x8_1), (x9_1), (wrap64 (x10_1 + 1)), (by first | rfl | (simp; done) | (simp [*]; done)), (by first | rfl | (simp; done) | (simp [*]; done)), H', ⟨by have := HK1.out; omega⟩, ⟨by (with_reducible repeat (first | apply Kd.V_alloc | apply Kd.V_drewN | apply Kd.V_drew)); exact Kd.V_mono (Kd.V_far (p := ⟨gb241, 5, none⟩) (Kd.V_far (p := ⟨gb241, 4, none⟩) (Kd.V_far (p := ⟨gb241, 3, none⟩) (Kd.V_far (p := ⟨gb241, 2, none⟩) (Kd.V_far (p := ⟨gb241, 1, none⟩) (Kd.V_far (p := ⟨gb241, 0, none⟩) (Kd.V_mono HO_0.out (fun k_ hk => (⟨hk, hk.2⟩ : _ ∧ k_ ≠ gb241))) (fun _ hk => hk.2) (.int .i64 ((rd_T42 l1 x10_1).f0))) (fun _ hk => hk.2) (.int .i64 ((rd_T42 l1 x10_1).f1))) (fun _ hk => hk.2) (.int .i64 ((rd_T42 l1 x10_1).f2.f0))) (fun _ hk => hk.2) (.int .i64 ((rd_T42 l1 x10_1).f2.f1))) (fun _ hk => hk.2) (.int .i64 ((rd_T42 l1 x10_1).f3))) (fun _ hk => hk.2) (.int .i64 ((rd_T42 l1 x10_1).f4))) (fun _ hk => hk.1.1)⟩, ⟨by (with_reducible repeat (first | apply Kd.V_alloc | apply Kd.V_drewN | apply Kd.V_drew)); exact Kd.V_mono (Kd.V_far (p := ⟨gb241, 5, none⟩) (Kd.V_far (p := ⟨gb241, 4, none⟩) (Kd.V_far (p := ⟨gb241, 3, none⟩) (Kd.V_far (p := ⟨gb241, 2, none⟩) (Kd.V_far (p := ⟨gb241, 1, none⟩) (Kd.V_far (p := ⟨gb241, 0, none⟩) (Kd.V_mono HO_8.out (fun k_ hk => (⟨hk, hk.2⟩ : _ ∧ k_ ≠ gb241))) (fun _ hk => hk.2) (.int .i64 ((rd_T42 l1 x10_1).f0))) (fun _ hk => hk.2) (.int .i64 ((rd_T42 l1 x10_1).f1))) (fun _ hk => hk.2) (.int .i64 ((rd_T42 l1 x10_1).f2.f0))) (fun _ hk => hk.2) (.int .i64 ((rd_T42 l1 x10_1).f2.f1))) (fun _ hk => hk.2) (.int .i64 ((rd_T42 l1 x10_1).f3))) (fun _ hk => hk.2) (.int .i64 ((rd_T42 l1 x10_1).f4))) (fun _ hk => hk.1.1)⟩, ⟨by repeat (first | (with_reducible first | exact HB.out | apply below_alloc | apply pw_below_drewN | apply below_drew1 | refine below_set ?_ GE241.out) | exact HB.out)⟩⟩
      ·rw [if_neg c9] at H
       have c9b0 : decide (((rd_T42 l1 x10_1).f0) < t242) = false := decide_eq_false c9
       clear c9
       replace H := Option.bind_eq_some_iff.mp H
       obtain ⟨t243, A130, H⟩ := H
       replace H : (if t243 > t242 then ((plenumref42_First.f ((rd_T42 l1 x10_1).f0) ((rd_T42 l1 x10_1).f1) ((rd_T42 l1 x10_1).f2.f0) ((rd_T42 l1 x10_1).f2.f1) ((rd_T42 l1 x10_1).f3) ((rd_T42 l1 x10_1).f4)).bind fun t244 => ((plenumref42_gap.f t242 (wrap64 (t244 - 1))).bind fun bt245 => ((plenumref42_add.f k1 x8_1 bt245.1 bt245.2.1 bt245.2.2.1 bt245.2.2.2.1 bt245.2.2.2.2.1 bt245.2.2.2.2.2).bind fun t251 => (plenumref42_Take.j1 k1 l0 l1 t251 x9_1 x10_1 t242 ((rd_T42 l1 x10_1).f0) ((rd_T42 l1 x10_1).f1) ((rd_T42 l1 x10_1).f2.f0) ((rd_T42 l1 x10_1).f2.f1) ((rd_T42 l1 x10_1).f3) ((rd_T42 l1 x10_1).f4))))) else (plenumref42_Take.j1 k1 l0 l1 x8_1 x9_1 x10_1 t242 ((rd_T42 l1 x10_1).f0) ((rd_T42 l1 x10_1).f1) ((rd_T42 l1 x10_1).f2.f0) ((rd_T42 l1 x10_1).f2.f1) ((rd_T42 l1 x10_1).f3) ((rd_T42 l1 x10_1).f4))) = some (r1, r2, r3) := H
       have A13 := Aside0.mk A130
       clear A130
       have HC14 := Aside0.mk H
       clear H
       have p240 : 0 ≤ (x10_1 : Int) := of_decide_eq_true (by first | (with_reducible assumption) | assumption)
       have q240 : x10_1 < (l1.length : Int) := of_decide_eq_true (by first | (with_reducible assumption) | assumption)
       obtain ⟨ad240, e240, hx240_0, hx240_1, hx240_2, hx240_3, hx240_4, hx240_5⟩ := at_T42 HR1.out x10_1 p240 q240
       cases e240
       replace hx240_0 := (HB.out.cell (World.block_lt_of_cell? w _ hx240_0)).trans hx240_0
       replace hx240_1 := (HB.out.cell (World.block_lt_of_cell? w _ hx240_1)).trans hx240_1
       replace hx240_2 := (HB.out.cell (World.block_lt_of_cell? w _ hx240_2)).trans hx240_2
       replace hx240_3 := (HB.out.cell (World.block_lt_of_cell? w _ hx240_3)).trans hx240_3
       replace hx240_4 := (HB.out.cell (World.block_lt_of_cell? w _ hx240_4)).trans hx240_4
       replace hx240_5 := (HB.out.cell (World.block_lt_of_cell? w _ hx240_5)).trans hx240_5
       replace p240 := eq_true p240
       replace q240 := eq_true q240
       go_upto_if 39 with (first | ((with_reducible refine gate_dst (N := 11) rfl ?_); refine box_event ?hg (N := 11) ?hd (cs := #[.int .i64 0, .int .i64 0, .int .i64 0, .int .i64 0, .int .i64 0, .int .i64 0]) (t := 42) ?hr ?_; (case hd => rfl); (case hg => rfl); (case hr => first | (go_simp; done) | (go_simp; rfl)); intro gb241 hg w15 hbox hb; have n0_ := Aside0.mk (Kd.V_below (Kd.V_elderB (by (with_reducible repeat (first | apply Kd.V_alloc | apply Kd.V_drewN | apply Kd.V_drew)); exact HO_0.out) gb241 (Nat.le_of_eq hg.symm)) hb); have n1_ := Aside0.mk (Kd.V_below (Kd.V_elderB (by (with_reducible repeat (first | apply Kd.V_alloc | apply Kd.V_drewN | apply Kd.V_drew)); exact HO_8.out) gb241 (Nat.le_of_eq hg.symm)) hb); have n2_ := Aside0.mk (below_step (by repeat (first | (with_reducible first | exact HB.out | apply below_alloc | apply pw_below_drewN | apply below_drew1) | exact HB.out)) hb); have n3_ := Aside0.mk (hbox); have n4_ := Aside0.mk ((by rw [hg]; exact (below_size (by repeat (first | (with_reducible first | exact HB.out | apply below_alloc | apply pw_below_drewN | apply below_drew1) | exact HB.out))) : w.heap.size ≤ gb241)); have n5_ := Aside0.mk ((by rw [hg]; exact (below_size (by repeat (first | (with_reducible first | exact HB.out | apply below_alloc | apply pw_below_drewN | apply below_drew1) | exact HB.out))) : w.heap.size ≤ gb241)); clear HO_0; clear HO_8; clear HB; have HO_0 := n0_; have HO_8 := n1_; have HB := n2_; have BK241 := n3_; have GW241 := n4_; have GE241 := n5_; clear n0_ n1_ n2_ n3_ n4_ n5_; clear hb hbox hg; have hcz16_0 : w15.cell? ⟨gb241, 0, none⟩ = some (.int .i64 0) := (blk_cell BK241.out 0).trans rfl; have hcz16_1 : w15.cell? ⟨gb241, 1, none⟩ = some (.int .i64 0) := (blk_cell BK241.out 1).trans rfl; have hcz16_2 : w15.cell? ⟨gb241, 2, none⟩ = some (.int .i64 0) := (blk_cell BK241.out 2).trans rfl; have hcz16_3 : w15.cell? ⟨gb241, 3, none⟩ = some (.int .i64 0) := (blk_cell BK241.out 3).trans rfl; have hcz16_4 : w15.cell? ⟨gb241, 4, none⟩ = some (.int .i64 0) := (blk_cell BK241.out 4).trans rfl; have hcz16_5 : w15.cell? ⟨gb241, 5, none⟩ = some (.int .i64 0) := (blk_cell BK241.out 5).trans rfl; have hfz16_0 := blk_frozen BK241.out 0; have hfz16_1 := blk_frozen BK241.out 1; have hfz16_2 := blk_frozen BK241.out 2; have hfz16_3 := blk_frozen BK241.out 3; have hfz16_4 := blk_frozen BK241.out 4; have hfz16_5 := blk_frozen BK241.out 5; obtain ⟨Ao17, co17, eo17⟩ := Kd.V_slice HO_8.out; subst eo17) | ((with_reducible refine gate_callee (f := 16) rfl ?_); refine goesL_ (some 31) rfl rfl Try.func16 (by kernel_rfl) rfl #[.slice Ao17 x8_1.length co17] rfl (by (try simp only [List.map_toArray, List.map_cons, List.map_nil]); first | done | rfl | (simp only [List.length_drop, List.length_take]; rfl)) ?_; (with_reducible refine (plenumref42_Asks.calls _ _ x8_1 t242 _ ?side1 ?side2 A8.out).mono ?_); (case side1 => refine (Kd.V_reads' (e := 42) (base := w.heap.size) (ok := fun k_ => ((P0_ k_ ∨ w.heap.size ≤ k_) ∧ k_ ≠ gb241)) (n := x8_1.length) (c := co17) ?_).2.2; exact (by (with_reducible repeat (first | apply Kd.V_alloc | apply Kd.V_drewN | apply Kd.V_drew)); exact (Kd.V_mono (Kd.V_far (p := ⟨gb241, 5, none⟩) (Kd.V_far (p := ⟨gb241, 4, none⟩) (Kd.V_far (p := ⟨gb241, 3, none⟩) (Kd.V_far (p := ⟨gb241, 2, none⟩) (Kd.V_far (p := ⟨gb241, 1, none⟩) (Kd.V_far (p := ⟨gb241, 0, none⟩) (Kd.V_mono HO_8.out (fun k_ hk => (⟨hk, hk.2⟩ : _ ∧ k_ ≠ gb241))) (fun _ hk => hk.2) (.int .i64 ((rd_T42 l1 x10_1).f0))) (fun _ hk => hk.2) (.int .i64 ((rd_T42 l1 x10_1).f1))) (fun _ hk => hk.2) (.int .i64 ((rd_T42 l1 x10_1).f2.f0))) (fun _ hk => hk.2) (.int .i64 ((rd_T42 l1 x10_1).f2.f1))) (fun _ hk => hk.2) (.int .i64 ((rd_T42 l1 x10_1).f3))) (fun _ hk => hk.2) (.int .i64 ((rd_T42 l1 x10_1).f4))) (fun _ h_ => h_.1)))); (case side2 => exact (Kd.V_reads' HO_8.out).2.1); rintro e w' ⟨rfl, ⟨nd, rfl⟩⟩; refine ⟨_, rfl, ?_⟩) | ((with_reducible refine gate_callee (f := 22) rfl ?_); refine goesL_ (some 37) rfl rfl Try.func22 (by kernel_rfl) rfl #[.agg #[.int .i64 ((rd_T42 l1 x10_1).f0), .int .i64 ((rd_T42 l1 x10_1).f1), .int .i64 ((rd_T42 l1 x10_1).f2.f0), .int .i64 ((rd_T42 l1 x10_1).f2.f1), .int .i64 ((rd_T42 l1 x10_1).f3), .int .i64 ((rd_T42 l1 x10_1).f4)]] rfl (by (try simp only [List.map_toArray, List.map_cons, List.map_nil]); first | done | rfl | (simp only [List.length_drop, List.length_take]; rfl)) ?_; (with_reducible refine (plenumref42_First.calls ((rd_T42 l1 x10_1).f0) ((rd_T42 l1 x10_1).f1) ((rd_T42 l1 x10_1).f2.f0) ((rd_T42 l1 x10_1).f2.f1) ((rd_T42 l1 x10_1).f3) ((rd_T42 l1 x10_1).f4) t243 _ A13.out).mono ?_); rintro e w18 ⟨rfl, hb⟩; refine ⟨_, rfl, ?_⟩; have n0_ := Aside0.mk (Kd.V_below (by (with_reducible repeat (first | apply Kd.V_alloc | apply Kd.V_drewN | apply Kd.V_drew)); exact (Kd.V_mono (Kd.V_far (p := ⟨gb241, 5, none⟩) (Kd.V_far (p := ⟨gb241, 4, none⟩) (Kd.V_far (p := ⟨gb241, 3, none⟩) (Kd.V_far (p := ⟨gb241, 2, none⟩) (Kd.V_far (p := ⟨gb241, 1, none⟩) (Kd.V_far (p := ⟨gb241, 0, none⟩) (Kd.V_mono HO_0.out (fun k_ hk => (⟨hk, hk.2⟩ : _ ∧ k_ ≠ gb241))) (fun _ hk => hk.2) (.int .i64 ((rd_T42 l1 x10_1).f0))) (fun _ hk => hk.2) (.int .i64 ((rd_T42 l1 x10_1).f1))) (fun _ hk => hk.2) (.int .i64 ((rd_T42 l1 x10_1).f2.f0))) (fun _ hk => hk.2) (.int .i64 ((rd_T42 l1 x10_1).f2.f1))) (fun _ hk => hk.2) (.int .i64 ((rd_T42 l1 x10_1).f3))) (fun _ hk => hk.2) (.int .i64 ((rd_T42 l1 x10_1).f4))) (fun _ h_ => h_.1))) hb); have n1_ := Aside0.mk (Kd.V_below (by (with_reducible repeat (first | apply Kd.V_alloc | apply Kd.V_drewN | apply Kd.V_drew)); exact (Kd.V_mono (Kd.V_far (p := ⟨gb241, 5, none⟩) (Kd.V_far (p := ⟨gb241, 4, none⟩) (Kd.V_far (p := ⟨gb241, 3, none⟩) (Kd.V_far (p := ⟨gb241, 2, none⟩) (Kd.V_far (p := ⟨gb241, 1, none⟩) (Kd.V_far (p := ⟨gb241, 0, none⟩) (Kd.V_mono HO_8.out (fun k_ hk => (⟨hk, hk.2⟩ : _ ∧ k_ ≠ gb241))) (fun _ hk => hk.2) (.int .i64 ((rd_T42 l1 x10_1).f0))) (fun _ hk => hk.2) (.int .i64 ((rd_T42 l1 x10_1).f1))) (fun _ hk => hk.2) (.int .i64 ((rd_T42 l1 x10_1).f2.f0))) (fun _ hk => hk.2) (.int .i64 ((rd_T42 l1 x10_1).f2.f1))) (fun _ hk => hk.2) (.int .i64 ((rd_T42 l1 x10_1).f3))) (fun _ hk => hk.2) (.int .i64 ((rd_T42 l1 x10_1).f4))) (fun _ h_ => h_.1))) hb); have n2_ := Aside0.mk (blk_below (g := gb241) (o := .cells #[.int .i64 ((rd_T42 l1 x10_1).f0), .int .i64 ((rd_T42 l1 x10_1).f1), .int .i64 ((rd_T42 l1 x10_1).f2.f0), .int .i64 ((rd_T42 l1 x10_1).f2.f1), .int .i64 ((rd_T42 l1 x10_1).f3), .int .i64 ((rd_T42 l1 x10_1).f4)] 42 (0, 0)) (by (with_reducible repeat (first | refine blk_drewN ?_ _ | refine blk_drew ?_ | refine blk_alloc ?_ _)); refine blk_put (cs := #[.int .i64 ((rd_T42 l1 x10_1).f0), .int .i64 ((rd_T42 l1 x10_1).f1), .int .i64 ((rd_T42 l1 x10_1).f2.f0), .int .i64 ((rd_T42 l1 x10_1).f2.f1), .int .i64 ((rd_T42 l1 x10_1).f3), .int .i64 0]) ?_ 5 _ rfl; (with_reducible repeat (first | refine blk_drewN ?_ _ | refine blk_drew ?_ | refine blk_alloc ?_ _)); refine blk_put (cs := #[.int .i64 ((rd_T42 l1 x10_1).f0), .int .i64 ((rd_T42 l1 x10_1).f1), .int .i64 ((rd_T42 l1 x10_1).f2.f0), .int .i64 ((rd_T42 l1 x10_1).f2.f1), .int .i64 0, .int .i64 0]) ?_ 4 _ rfl; (with_reducible repeat (first | refine blk_drewN ?_ _ | refine blk_drew ?_ | refine blk_alloc ?_ _)); refine blk_put (cs := #[.int .i64 ((rd_T42 l1 x10_1).f0), .int .i64 ((rd_T42 l1 x10_1).f1), .int .i64 ((rd_T42 l1 x10_1).f2.f0), .int .i64 0, .int .i64 0, .int .i64 0]) ?_ 3 _ rfl; (with_reducible repeat (first | refine blk_drewN ?_ _ | refine blk_drew ?_ | refine blk_alloc ?_ _)); refine blk_put (cs := #[.int .i64 ((rd_T42 l1 x10_1).f0), .int .i64 ((rd_T42 l1 x10_1).f1), .int .i64 0, .int .i64 0, .int .i64 0, .int .i64 0]) ?_ 2 _ rfl; (with_reducible repeat (first | refine blk_drewN ?_ _ | refine blk_drew ?_ | refine blk_alloc ?_ _)); refine blk_put (cs := #[.int .i64 ((rd_T42 l1 x10_1).f0), .int .i64 0, .int .i64 0, .int .i64 0, .int .i64 0, .int .i64 0]) ?_ 1 _ rfl; (with_reducible repeat (first | refine blk_drewN ?_ _ | refine blk_drew ?_ | refine blk_alloc ?_ _)); refine blk_put (cs := #[.int .i64 0, .int .i64 0, .int .i64 0, .int .i64 0, .int .i64 0, .int .i64 0]) ?_ 0 _ rfl; (with_reducible repeat (first | refine blk_drewN ?_ _ | refine blk_drew ?_ | refine blk_alloc ?_ _)); exact BK241.out) hb); have n3_ := Aside0.mk (below_step (by repeat (first | (with_reducible first | exact HB.out | apply below_alloc | apply pw_below_drewN | apply below_drew1 | refine below_set ?_ GE241.out) | exact HB.out)) hb); clear HO_0; clear HO_8; clear BK241; clear HB; have HO_0 := n0_; have HO_8 := n1_; have BK241 := n2_; have HB := n3_; clear n0_ n1_ n2_ n3_; (try clear hb); (try clear hb2); (try clear hk); (try clear hi)))
       (try simp only [Act.put, List.setIfInBounds_toArray, List.set_cons_zero, List.set_cons_succ])
       go_cut [8] (fun v8 wc => ∃ (kq : Nat) (x8_13 : List (S42)), Aside0 (plenumref42_Take.j1 kq l0 l1 x8_13 x9_1 x10_1 t242 ((rd_T42 l1 x10_1).f0) ((rd_T42 l1 x10_1).f1) ((rd_T42 l1 x10_1).f2.f0) ((rd_T42 l1 x10_1).f2.f1) ((rd_T42 l1 x10_1).f3) ((rd_T42 l1 x10_1).f4) = some (r1, r2, r3)) ∧ Aside0 (kq ≤ k1) ∧ Aside0 (Kd.V k42 42 wc w.heap.size (fun k_ => (P0_ k_ ∨ w.heap.size ≤ k_) ∧ k_ ≠ gb241) (.slice A0 l0.length c0) l0) ∧ Aside0 (Kd.V k42 42 wc w.heap.size (fun k_ => (P0_ k_ ∨ w.heap.size ≤ k_) ∧ k_ ≠ gb241) v8 x8_13) ∧ Aside0 (wc.heap[gb241]? = some (.cells #[.int .i64 ((rd_T42 l1 x10_1).f0), .int .i64 ((rd_T42 l1 x10_1).f1), .int .i64 ((rd_T42 l1 x10_1).f2.f0), .int .i64 ((rd_T42 l1 x10_1).f2.f1), .int .i64 ((rd_T42 l1 x10_1).f3), .int .i64 ((rd_T42 l1 x10_1).f4)] 42 (0, 0))) ∧ Aside0 (Below w.heap.size w wc))
       case first =>
        have H := HC14.out
        clear HC14
        by_cases c19 : t243 > t242
        ·rw [if_pos c19] at H
         have c19b0 : decide (t242 < t243) = true := decide_eq_true c19
         clear c19
         (first | rw [c19b0] | (simp only [i64_w, i32_w]; rw [c19b0]) | skip)
         replace H := Option.bind_eq_some_iff.mp H
         obtain ⟨t244, A200, H⟩ := H
         replace H : ((plenumref42_gap.f t242 (wrap64 (t244 - 1))).bind fun bt245 => ((plenumref42_add.f k1 x8_1 bt245.1 bt245.2.1 bt245.2.2.1 bt245.2.2.2.1 bt245.2.2.2.2.1 bt245.2.2.2.2.2).bind fun t251 => (plenumref42_Take.j1 k1 l0 l1 t251 x9_1 x10_1 t242 ((rd_T42 l1 x10_1).f0) ((rd_T42 l1 x10_1).f1) ((rd_T42 l1 x10_1).f2.f0) ((rd_T42 l1 x10_1).f2.f1) ((rd_T42 l1 x10_1).f3) ((rd_T42 l1 x10_1).f4)))) = some (r1, r2, r3) := H
         have A20 := Aside0.mk A200
         clear A200
         replace H := Option.bind_eq_some_iff.mp H
         obtain ⟨⟨t245, t246, t247, t248, t249, t250⟩, A210, H⟩ := H
         replace H : ((plenumref42_add.f k1 x8_1 t245 t246 t247 t248 t249 t250).bind fun t251 => (plenumref42_Take.j1 k1 l0 l1 t251 x9_1 x10_1 t242 ((rd_T42 l1 x10_1).f0) ((rd_T42 l1 x10_1).f1) ((rd_T42 l1 x10_1).f2.f0) ((rd_T42 l1 x10_1).f2.f1) ((rd_T42 l1 x10_1).f3) ((rd_T42 l1 x10_1).f4))) = some (r1, r2, r3) := H
         have A21 := Aside0.mk A210
         clear A210
         replace H := Option.bind_eq_some_iff.mp H
         obtain ⟨t251, A220, H⟩ := H
         replace H : (plenumref42_Take.j1 k1 l0 l1 t251 x9_1 x10_1 t242 ((rd_T42 l1 x10_1).f0) ((rd_T42 l1 x10_1).f1) ((rd_T42 l1 x10_1).f2.f0) ((rd_T42 l1 x10_1).f2.f1) ((rd_T42 l1 x10_1).f3) ((rd_T42 l1 x10_1).f4)) = some (r1, r2, r3) := H
         have A22 := Aside0.mk A220
         clear A220
         have H' := Aside0.mk H
         clear H
         have hcz23_0 : w18.cell? ⟨gb241, 0, none⟩ = some (.int .i64 ((rd_T42 l1 x10_1).f0)) := (blk_cell BK241.out 0).trans rfl
         have hcz23_1 : w18.cell? ⟨gb241, 1, none⟩ = some (.int .i64 ((rd_T42 l1 x10_1).f1)) := (blk_cell BK241.out 1).trans rfl
         have hcz23_2 : w18.cell? ⟨gb241, 2, none⟩ = some (.int .i64 ((rd_T42 l1 x10_1).f2.f0)) := (blk_cell BK241.out 2).trans rfl
         have hcz23_3 : w18.cell? ⟨gb241, 3, none⟩ = some (.int .i64 ((rd_T42 l1 x10_1).f2.f1)) := (blk_cell BK241.out 3).trans rfl
         have hcz23_4 : w18.cell? ⟨gb241, 4, none⟩ = some (.int .i64 ((rd_T42 l1 x10_1).f3)) := (blk_cell BK241.out 4).trans rfl
         have hcz23_5 : w18.cell? ⟨gb241, 5, none⟩ = some (.int .i64 ((rd_T42 l1 x10_1).f4)) := (blk_cell BK241.out 5).trans rfl
         have hfz23_0 := blk_frozen BK241.out 0
         have hfz23_1 := blk_frozen BK241.out 1
         have hfz23_2 := blk_frozen BK241.out 2
         have hfz23_3 := blk_frozen BK241.out 3
         have hfz23_4 := blk_frozen BK241.out 4
         have hfz23_5 := blk_frozen BK241.out 5
         go_wp2_with (first | ((with_reducible refine gate_callee (f := 22) rfl ?_); refine goesL_ (some 43) rfl rfl Try.func22 (by kernel_rfl) rfl #[.agg #[.int .i64 ((rd_T42 l1 x10_1).f0), .int .i64 ((rd_T42 l1 x10_1).f1), .int .i64 ((rd_T42 l1 x10_1).f2.f0), .int .i64 ((rd_T42 l1 x10_1).f2.f1), .int .i64 ((rd_T42 l1 x10_1).f3), .int .i64 ((rd_T42 l1 x10_1).f4)]] rfl (by (try simp only [List.map_toArray, List.map_cons, List.map_nil]); first | done | rfl | (simp only [List.length_drop, List.length_take]; rfl)) ?_; (with_reducible refine (plenumref42_First.calls ((rd_T42 l1 x10_1).f0) ((rd_T42 l1 x10_1).f1) ((rd_T42 l1 x10_1).f2.f0) ((rd_T42 l1 x10_1).f2.f1) ((rd_T42 l1 x10_1).f3) ((rd_T42 l1 x10_1).f4) t244 _ A20.out).mono ?_); rintro e w24 ⟨rfl, hb⟩; refine ⟨_, rfl, ?_⟩; have n0_ := Aside0.mk (Kd.V_below (by (with_reducible repeat (first | apply Kd.V_alloc | apply Kd.V_drewN | apply Kd.V_drew)); exact HO_0.out) hb); have n1_ := Aside0.mk (Kd.V_below (by (with_reducible repeat (first | apply Kd.V_alloc | apply Kd.V_drewN | apply Kd.V_drew)); exact HO_8.out) hb); have n2_ := Aside0.mk (blk_below (g := gb241) (o := .cells #[.int .i64 ((rd_T42 l1 x10_1).f0), .int .i64 ((rd_T42 l1 x10_1).f1), .int .i64 ((rd_T42 l1 x10_1).f2.f0), .int .i64 ((rd_T42 l1 x10_1).f2.f1), .int .i64 ((rd_T42 l1 x10_1).f3), .int .i64 ((rd_T42 l1 x10_1).f4)] 42 (0, 0)) (by (with_reducible repeat (first | refine blk_drewN ?_ _ | refine blk_drew ?_ | refine blk_alloc ?_ _)); exact BK241.out) hb); have n3_ := Aside0.mk (below_step (by repeat (first | (with_reducible first | exact HB.out | apply below_alloc | apply pw_below_drewN | apply below_drew1 | refine below_set ?_ GE241.out) | exact HB.out)) hb); clear HO_0; clear HO_8; clear BK241; clear HB; have HO_0 := n0_; have HO_8 := n1_; have BK241 := n2_; have HB := n3_; clear n0_ n1_ n2_ n3_; (try clear hb); (try clear hb2); (try clear hk); (try clear hi)) | ((with_reducible refine gate_callee (f := 38) rfl ?_); refine goesL_ (some 45) rfl rfl Try.func38 (by kernel_rfl) rfl #[.int .i64 t242, .int .i64 (wrap64 (t244 - 1))] rfl (by (try simp only [List.map_toArray, List.map_cons, List.map_nil]); first | done | rfl | (simp only [List.length_drop, List.length_take]; rfl)) ?_; (with_reducible refine (plenumref42_gap.calls t242 (wrap64 (t244 - 1)) t245 t246 t247 t248 t249 t250 _ A21.out).mono ?_); rintro e w25 ⟨rfl, hb⟩; refine ⟨_, rfl, ?_⟩; have n0_ := Aside0.mk (Kd.V_below (by (with_reducible repeat (first | apply Kd.V_alloc | apply Kd.V_drewN | apply Kd.V_drew)); exact HO_0.out) hb); have n1_ := Aside0.mk (Kd.V_below (by (with_reducible repeat (first | apply Kd.V_alloc | apply Kd.V_drewN | apply Kd.V_drew)); exact HO_8.out) hb); have n2_ := Aside0.mk (blk_below (g := gb241) (o := .cells #[.int .i64 ((rd_T42 l1 x10_1).f0), .int .i64 ((rd_T42 l1 x10_1).f1), .int .i64 ((rd_T42 l1 x10_1).f2.f0), .int .i64 ((rd_T42 l1 x10_1).f2.f1), .int .i64 ((rd_T42 l1 x10_1).f3), .int .i64 ((rd_T42 l1 x10_1).f4)] 42 (0, 0)) (by (with_reducible repeat (first | refine blk_drewN ?_ _ | refine blk_drew ?_ | refine blk_alloc ?_ _)); exact BK241.out) hb); have n3_ := Aside0.mk (below_step (by repeat (first | (with_reducible first | exact HB.out | apply below_alloc | apply pw_below_drewN | apply below_drew1 | refine below_set ?_ GE241.out) | exact HB.out)) hb); clear HO_0; clear HO_8; clear BK241; clear HB; have HO_0 := n0_; have HO_8 := n1_; have BK241 := n2_; have HB := n3_; clear n0_ n1_ n2_ n3_; (try clear hb); (try clear hb2); (try clear hk); (try clear hi)) | ((with_reducible refine gate_callee (f := 37) rfl ?_); refine goesL_ (some 46) rfl rfl Try.func37 (by kernel_rfl) rfl #[.slice Ao17 x8_1.length co17, .agg #[.int .i64 t245, .int .i64 t246, .int .i64 t247, .int .i64 t248, .int .i64 t249, .int .i64 t250]] rfl (by (try simp only [List.map_toArray, List.map_cons, List.map_nil]); first | done | rfl | (simp only [List.length_drop, List.length_take]; rfl)) ?_; (with_reducible refine (plenumref42_add.calls k1 _ _ x8_1 t245 t246 t247 t248 t249 t250 t251 _ ?side1 ?side2 A22.out).mono ?_); (case side1 => repeat (first | exact (Kd.V_reads' HO_8.out).2.2 | (with_reducible refine Kd.C_alloc ?_ _) | (with_reducible refine Kd.C_drewN ?_ _) | (with_reducible refine Kd.C_drew ?_))); (case side2 => exact (Kd.V_reads' HO_8.out).2.1); rintro e w26 ⟨v252, rfl, ho0, hb⟩; refine ⟨_, rfl, ?_⟩; have n0_ := Aside0.mk (Kd.V_elder' (by (with_reducible repeat (first | apply Kd.V_alloc | apply Kd.V_drewN | apply Kd.V_drew)); exact HO_0.out) (Kd.R_base ho0) hb); have n1_ := Aside0.mk (Kd.V_elder' (by (with_reducible repeat (first | apply Kd.V_alloc | apply Kd.V_drewN | apply Kd.V_drew)); exact HO_8.out) (Kd.R_base ho0) hb); have n2_ := Aside0.mk (Kd.R_lower (Kd.R_newB (Kd.R_newM (M := fun k_ => (w.heap.size ≤ k_)) ho0 (below_size (by repeat (first | (with_reducible first | exact HB.out | apply below_alloc | apply pw_below_drewN | apply below_drew1 | refine below_set ?_ GE241.out) | exact HB.out))) (fun k_ h_ => h_)) (g := gb241) (o := .cells #[.int .i64 ((rd_T42 l1 x10_1).f0), .int .i64 ((rd_T42 l1 x10_1).f1), .int .i64 ((rd_T42 l1 x10_1).f2.f0), .int .i64 ((rd_T42 l1 x10_1).f2.f1), .int .i64 ((rd_T42 l1 x10_1).f3), .int .i64 ((rd_T42 l1 x10_1).f4)] 42 (0, 0)) (by (with_reducible repeat (first | refine blk_drewN ?_ _ | refine blk_drew ?_ | refine blk_alloc ?_ _)); exact BK241.out)) (below_size (by repeat (first | (with_reducible first | exact HB.out | apply below_alloc | apply pw_below_drewN | apply below_drew1 | refine below_set ?_ GE241.out) | exact HB.out)))); have n3_ := Aside0.mk (blk_below (g := gb241) (o := .cells #[.int .i64 ((rd_T42 l1 x10_1).f0), .int .i64 ((rd_T42 l1 x10_1).f1), .int .i64 ((rd_T42 l1 x10_1).f2.f0), .int .i64 ((rd_T42 l1 x10_1).f2.f1), .int .i64 ((rd_T42 l1 x10_1).f3), .int .i64 ((rd_T42 l1 x10_1).f4)] 42 (0, 0)) (by (with_reducible repeat (first | refine blk_drewN ?_ _ | refine blk_drew ?_ | refine blk_alloc ?_ _)); exact BK241.out) hb); have n4_ := Aside0.mk (below_step (by repeat (first | (with_reducible first | exact HB.out | apply below_alloc | apply pw_below_drewN | apply below_drew1 | refine below_set ?_ GE241.out) | exact HB.out)) hb); clear HO_0; clear HO_8; clear BK241; clear HB; have HO_0 := n0_; have HO_8 := n1_; have HO253 := n2_; have BK241 := n3_; have HB := n4_; clear n0_ n1_ n2_ n3_ n4_; (try clear hb); (try clear hb2); (try clear hk); (try clear hi); (try clear ho0)))
         go_meet
         case rel => exact ⟨_, (t251), H', ⟨by have := HK1.out; first | omega | exact Nat.le_refl _⟩, ⟨by (with_reducible repeat (first | apply Kd.V_alloc | apply Kd.V_drewN | apply Kd.V_drew)); exact Kd.V_mono HO_0.out (fun _ hk => ⟨hk.1.1, hk.1.2⟩)⟩, ⟨Kd.V_mono (Kd.R_V (by (with_reducible repeat (first | apply Kd.R_alloc | apply Kd.R_drewN | apply Kd.R_drew)); exact Kd.R_mono (ok' := fun k_ => w.heap.size ≤ k_ ∧ k_ ≠ gb241) HO253.out (fun _ hk => ⟨hk.1.1, hk.2⟩))) (fun k_ hk => by first | exact ⟨(.inr (hk.1)), hk.2⟩ | exact (.inr (hk)))⟩, ⟨by (with_reducible repeat (first | refine blk_drewN ?_ _ | refine blk_drew ?_ | refine blk_alloc ?_ _)); exact BK241.out⟩, ⟨by repeat (first | (with_reducible first | exact HB.out | apply below_alloc | apply pw_below_drewN | apply below_drew1 | refine below_set ?_ GE241.out) | exact HB.out)⟩⟩
        ·rw [if_neg c19] at H
         have c19b0 : decide (t242 < t243) = false := decide_eq_false c19
         clear c19
         (first | rw [c19b0] | (simp only [i64_w, i32_w]; rw [c19b0]) | skip)
         have H' := Aside0.mk H
         clear H
         go_wp2
         go_meet
         case rel => exact ⟨_, (x8_1), H', ⟨by have := HK1.out; first | omega | exact Nat.le_refl _⟩, ⟨by (with_reducible repeat (first | apply Kd.V_alloc | apply Kd.V_drewN | apply Kd.V_drew)); exact HO_0.out⟩, ⟨by (with_reducible repeat (first | apply Kd.V_alloc | apply Kd.V_drewN | apply Kd.V_drew)); exact HO_8.out⟩, ⟨by (with_reducible repeat (first | refine blk_drewN ?_ _ | refine blk_drew ?_ | refine blk_alloc ?_ _)); exact BK241.out⟩, ⟨by repeat (first | (with_reducible first | exact HB.out | apply below_alloc | apply pw_below_drewN | apply below_drew1 | refine below_set ?_ GE241.out) | exact HB.out)⟩⟩
       case rest =>
        clear HC14
        try clear c1
        try clear c2
        try clear p2
        try clear q2
        try clear hx2
        try clear c3
        try clear c4
        try clear c4b0
        try clear c4b1
        try clear c6
        try clear c6b0
        try clear p6
        try clear c7
        try clear c7b0
        try clear c9
        try clear c9b0
        try clear c14
        try clear c16
        try clear c19
        try clear c19b0
        try clear c22
        try clear p24
        try clear q24
        try clear hx24
        try clear c25
        try clear hcz11_0
        try clear hcz11_1
        try clear hcz11_2
        try clear hcz11_3
        try clear hcz11_4
        try clear hcz11_5
        try clear hcz16_0
        try clear hcz16_1
        try clear hcz16_2
        try clear hcz16_3
        try clear hcz16_4
        try clear hcz16_5
        try clear hcz23_0
        try clear hcz23_1
        try clear hcz23_2
        try clear hcz23_3
        try clear hcz23_4
        try clear hcz23_5
        try clear hfz11_0
        try clear hfz11_1
        try clear hfz11_2
        try clear hfz11_3
        try clear hfz11_4
        try clear hfz11_5
        try clear hfz16_0
        try clear hfz16_1
        try clear hfz16_2
        try clear hfz16_3
        try clear hfz16_4
        try clear hfz16_5
        try clear hfz23_0
        try clear hfz23_1
        try clear hfz23_2
        try clear hfz23_3
        try clear hfz23_4
        try clear hfz23_5
        try clear hx240_0
        try clear hx240_1
        try clear hx240_2
        try clear hx240_3
        try clear hx240_4
        try clear hx240_5
        try clear p2
        try clear p240
        try clear q240
        obtain ⟨kq, x8_13, HA, HJ13, HO_0, HO_8, BK241, HB⟩ := hcut
        cases kq with
        | zero => exact absurd HA.out (by simp [plenumref42_Take.j1])
        | succ kj13 =>
         have H := HA.out
         clear HA
         simp only [plenumref42_Take.j1] at H
         by_cases c27 : ((rd_T42 l1 x10_1).f4) > 0
         ·rw [if_pos c27] at H
          have c27b0 : decide (0 < ((rd_T42 l1 x10_1).f4)) = true := decide_eq_true c27
          clear c27
          replace H := Option.bind_eq_some_iff.mp H
          obtain ⟨t254, A280, H⟩ := H
          replace H : ((plenumref42_gap.f (mx t242 t254) ((rd_T42 l1 x10_1).f0)).bind fun bt255 => ((plenumref42_add.f kj13 x8_13 bt255.1 bt255.2.1 bt255.2.2.1 bt255.2.2.2.1 bt255.2.2.2.2.1 bt255.2.2.2.2.2).bind fun t261 => (plenumref42_Take.l0 kj13 l0 l1 t261 x9_1 (wrap64 (x10_1 + 1))))) = some (r1, r2, r3) := H
          have A28 := Aside0.mk A280
          clear A280
          obtain ⟨ji29, hji29⟩ : ∃ j_ : Int, (mx t242 t254) = j_ := ⟨_, rfl⟩
          replace H : ((plenumref42_gap.f (ji29) ((rd_T42 l1 x10_1).f0)).bind fun bt255 => ((plenumref42_add.f kj13 x8_13 bt255.1 bt255.2.1 bt255.2.2.1 bt255.2.2.2.1 bt255.2.2.2.2.1 bt255.2.2.2.2.2).bind fun t261 => (plenumref42_Take.l0 kj13 l0 l1 t261 x9_1 (wrap64 (x10_1 + 1))))) = some (r1, r2, r3) := by first | (rw [hji29] at H; exact H) | (simp only [hji29] at H ⊢; exact H)
          (try rw [hji29] at A28)
          have hji29_ : (if t242 < t254 then t254 else t242) = ji29 := hji29
          replace H := Option.bind_eq_some_iff.mp H
          obtain ⟨⟨t255, t256, t257, t258, t259, t260⟩, A300, H⟩ := H
          replace H : ((plenumref42_add.f kj13 x8_13 t255 t256 t257 t258 t259 t260).bind fun t261 => (plenumref42_Take.l0 kj13 l0 l1 t261 x9_1 (wrap64 (x10_1 + 1)))) = some (r1, r2, r3) := H
          have A30 := Aside0.mk A300
          clear A300
          replace H := Option.bind_eq_some_iff.mp H
          obtain ⟨t261, A310, H⟩ := H
          replace H : (plenumref42_Take.l0 kj13 l0 l1 t261 x9_1 (wrap64 (x10_1 + 1))) = some (r1, r2, r3) := H
          have A31 := Aside0.mk A310
          clear A310
          have H' := Aside0.mk H
          clear H
          have hcz32_0 : wc.cell? ⟨gb241, 0, none⟩ = some (.int .i64 ((rd_T42 l1 x10_1).f0)) := (blk_cell BK241.out 0).trans rfl
          have hcz32_1 : wc.cell? ⟨gb241, 1, none⟩ = some (.int .i64 ((rd_T42 l1 x10_1).f1)) := (blk_cell BK241.out 1).trans rfl
          have hcz32_2 : wc.cell? ⟨gb241, 2, none⟩ = some (.int .i64 ((rd_T42 l1 x10_1).f2.f0)) := (blk_cell BK241.out 2).trans rfl
          have hcz32_3 : wc.cell? ⟨gb241, 3, none⟩ = some (.int .i64 ((rd_T42 l1 x10_1).f2.f1)) := (blk_cell BK241.out 3).trans rfl
          have hcz32_4 : wc.cell? ⟨gb241, 4, none⟩ = some (.int .i64 ((rd_T42 l1 x10_1).f3)) := (blk_cell BK241.out 4).trans rfl
          have hcz32_5 : wc.cell? ⟨gb241, 5, none⟩ = some (.int .i64 ((rd_T42 l1 x10_1).f4)) := (blk_cell BK241.out 5).trans rfl
          have hfz32_0 := blk_frozen BK241.out 0
          have hfz32_1 := blk_frozen BK241.out 1
          have hfz32_2 := blk_frozen BK241.out 2
          have hfz32_3 := blk_frozen BK241.out 3
          have hfz32_4 := blk_frozen BK241.out 4
          have hfz32_5 := blk_frozen BK241.out 5
          try go_wp2
          have n0_ := Aside0.mk (Kd.V_drew HO_0.out)
          have n1_ := Aside0.mk (Kd.V_drew HO_8.out)
          have n2_ := Aside0.mk (blk_drew BK241.out)
          have n3_ := Aside0.mk (below_drew1 HB.out)
          clear HO_0
          clear HO_8
          clear BK241
          clear HB
          have HO_0 := n0_
          have HO_8 := n1_
          have BK241 := n2_
          have HB := n3_
          clear n0_ n1_ n2_ n3_
          refine start_ (n := 8) (S := fun w' => w'.cell? ⟨gb241, 0, none⟩ = some (.int .i64 ((rd_T42 l1 x10_1).f0)) ∧ w'.cell? ⟨gb241, 1, none⟩ = some (.int .i64 ((rd_T42 l1 x10_1).f1)) ∧ w'.cell? ⟨gb241, 2, none⟩ = some (.int .i64 ((rd_T42 l1 x10_1).f2.f0)) ∧ w'.cell? ⟨gb241, 3, none⟩ = some (.int .i64 ((rd_T42 l1 x10_1).f2.f1)) ∧ w'.cell? ⟨gb241, 4, none⟩ = some (.int .i64 ((rd_T42 l1 x10_1).f3)) ∧ w'.cell? ⟨gb241, 5, none⟩ = some (.int .i64 ((rd_T42 l1 x10_1).f4))) (ds := [7]) #[false, false, false, false, false, false, false, false] (by kernel_rfl) rfl rfl ⟨(blk_cell BK241.out 0).trans rfl, (blk_cell BK241.out 1).trans rfl, (blk_cell BK241.out 2).trans rfl, (blk_cell BK241.out 3).trans rfl, (blk_cell BK241.out 4).trans rfl, (blk_cell BK241.out 5).trans rfl⟩ (fun hHeld => ?_); refine with_tabW plenumref42_Take.tab15 plenumref42_Take.bits15 (fun HT_ HW_ => ?_)
          generalize wc.drew = w33 at HO_0 HO_8 BK241 HB hHeld ⊢
          refine pure_ (i := 0) (N := some 50) (v := ?_) (a' := ?_) #[true, false, false, false, false, false, false, false] rfl rfl (any_of HT_.out (by kernel_rfl)) (fun _ _ _ h => h) (Or.inl ⟨by rfl, ?_⟩) ?_ ?_
          rotate_left
          ·intro w'
           go_simp
           with_reducible rfl
          rotate_left
          ·simp only [Act.put, List.setIfInBounds_toArray, List.set_cons_zero, List.set_cons_succ, i64_w, i32_w]
           rfl
          refine pure_ (i := 4) (N := some 54) (v := ?_) (a' := ?_) #[true, false, false, false, true, false, false, false] rfl rfl (any_of HT_.out (by kernel_rfl)) (fun _ _ _ h => h) (Or.inl ⟨by rfl, ?_⟩) ?_ ?_
          rotate_left
          ·intro w'
           go_simp
           with_reducible rfl
          rotate_left
          ·simp only [Act.put, List.setIfInBounds_toArray, List.set_cons_zero, List.set_cons_succ, i64_w, i32_w]
           rfl
          refine take_ (i := 1) (N := some 51) (v := ?_) (a' := ?_) #[true, true, false, false, true, false, false, false] rfl rfl (take_ofW HT_.out HW_.out (by kernel_rfl)) (fun _ _ _ h => h) (Or.inl ⟨by rfl, ?_⟩) hHeld ?_ ?_
          rotate_left
          ·rintro w' ⟨s0, s1, s2, s3, s4, s5⟩
           go_simp
           with_reducible rfl
          rotate_left
          ·simp only [Act.put, List.setIfInBounds_toArray, List.set_cons_zero, List.set_cons_succ, i64_w, i32_w]
           rfl
          refine take_ (i := 5) (N := some 55) (v := ?_) (a' := ?_) #[true, true, false, false, true, true, false, false] rfl rfl (take_ofW HT_.out HW_.out (by kernel_rfl)) (fun _ _ _ h => h) (Or.inl ⟨by rfl, ?_⟩) hHeld ?_ ?_
          rotate_left
          ·rintro w' ⟨s0, s1, s2, s3, s4, s5⟩
           go_simp
           with_reducible rfl
          rotate_left
          ·simp only [Act.put, List.setIfInBounds_toArray, List.set_cons_zero, List.set_cons_succ, i64_w, i32_w]
           rfl
          refine one_ (i := 2) (N := some 52) #[true, true, true, false, true, true, false, false] rfl rfl (one_of HT_.out (by kernel_rfl)) (by decide) (fun K hK => ?_)
          refine goes_ Try.func22 (by kernel_rfl) rfl #[.agg #[.int .i64 ((rd_T42 l1 x10_1).f0), .int .i64 ((rd_T42 l1 x10_1).f1), .int .i64 ((rd_T42 l1 x10_1).f2.f0), .int .i64 ((rd_T42 l1 x10_1).f2.f1), .int .i64 ((rd_T42 l1 x10_1).f3), .int .i64 ((rd_T42 l1 x10_1).f4)]] (by rfl) rfl rfl (by (try simp only [List.map_toArray, List.map_cons, List.map_nil]); first | done | rfl | (simp only [List.length_drop, List.length_take]; rfl)) ?_
          with_reducible refine (plenumref42_First.calls ((rd_T42 l1 x10_1).f0) ((rd_T42 l1 x10_1).f1) ((rd_T42 l1 x10_1).f2.f0) ((rd_T42 l1 x10_1).f2.f1) ((rd_T42 l1 x10_1).f3) ((rd_T42 l1 x10_1).f4) t254 _ A28.out).mono ?_
          rintro e w34 ⟨rfl, hb⟩
          refine ⟨_, rfl, ?_⟩
          have n0_ := Aside0.mk (Kd.V_below (by (with_reducible repeat (first | apply Kd.V_alloc | apply Kd.V_drewN | apply Kd.V_drew)); exact HO_0.out) hb)
          have n1_ := Aside0.mk (Kd.V_below (by (with_reducible repeat (first | apply Kd.V_alloc | apply Kd.V_drewN | apply Kd.V_drew)); exact HO_8.out) hb)
          have n2_ := Aside0.mk (blk_below (g := gb241) (o := .cells #[.int .i64 ((rd_T42 l1 x10_1).f0), .int .i64 ((rd_T42 l1 x10_1).f1), .int .i64 ((rd_T42 l1 x10_1).f2.f0), .int .i64 ((rd_T42 l1 x10_1).f2.f1), .int .i64 ((rd_T42 l1 x10_1).f3), .int .i64 ((rd_T42 l1 x10_1).f4)] 42 (0, 0)) (by (with_reducible repeat (first | refine blk_drewN ?_ _ | refine blk_drew ?_ | refine blk_alloc ?_ _)); exact BK241.out) hb)
          have n3_ := Aside0.mk (below_step (by repeat (first | (with_reducible first | exact HB.out | apply below_alloc | apply pw_below_drewN | apply below_drew1 | refine below_set ?_ GE241.out) | exact HB.out)) hb)
          clear HO_0
          clear HO_8
          clear BK241
          clear HB
          have HO_0 := n0_
          have HO_8 := n1_
          have BK241 := n2_
          have HB := n3_
          clear n0_ n1_ n2_ n3_
          (try clear hb)
          (try clear hb2)
          (try clear hk)
          (try clear hi)
          refine hK.out _ _ ⟨(blk_cell BK241.out 0).trans rfl, (blk_cell BK241.out 1).trans rfl, (blk_cell BK241.out 2).trans rfl, (blk_cell BK241.out 3).trans rfl, (blk_cell BK241.out 4).trans rfl, (blk_cell BK241.out 5).trans rfl⟩ (fun hHeld => ?_)
          clear hK K
          refine norm_ (a' := ?_) ?_ ?_
          rotate_left
          ·show Act.put _ (some 52) _ = _
           simp only [Act.put, List.setIfInBounds_toArray, List.set_cons_zero, List.set_cons_succ, i64_w, i32_w]
           rfl
          refine pure_ (i := 3) (N := some 53) (v := ?_) (a' := ?_) #[true, true, true, true, true, true, false, false] rfl rfl (any_of HT_.out (by kernel_rfl)) (fun _ _ _ h => h) (Or.inl ⟨by rfl, ?_⟩) ?_ ?_
          rotate_left
          ·intro w'
           go_simp
           with_reducible rfl
          rotate_left
          ·simp only [Act.put, List.setIfInBounds_toArray, List.set_cons_zero, List.set_cons_succ, i64_w, i32_w]
           rfl
          refine one_ (i := 6) (N := some 56) #[true, true, true, true, true, true, true, false] rfl rfl (one_of HT_.out (by kernel_rfl)) (by decide) (fun K hK => ?_)
          refine goes_ Try.func38 (by kernel_rfl) rfl #[.int .i64 ji29, .int .i64 ((rd_T42 l1 x10_1).f0)] (by rfl) rfl rfl (by (try simp only [List.map_toArray, List.map_cons, List.map_nil]); first | done | (simp only [hji29]; rfl) | rfl | (simp only [List.length_drop, List.length_take]; rfl)) ?_
          with_reducible refine (plenumref42_gap.calls ji29 ((rd_T42 l1 x10_1).f0) t255 t256 t257 t258 t259 t260 _ A30.out).mono ?_
          rintro e w35 ⟨rfl, hb⟩
          refine ⟨_, rfl, ?_⟩
          have n0_ := Aside0.mk (Kd.V_below (by (with_reducible repeat (first | apply Kd.V_alloc | apply Kd.V_drewN | apply Kd.V_drew)); exact HO_0.out) hb)
          have n1_ := Aside0.mk (Kd.V_below (by (with_reducible repeat (first | apply Kd.V_alloc | apply Kd.V_drewN | apply Kd.V_drew)); exact HO_8.out) hb)
          have n2_ := Aside0.mk (blk_below (g := gb241) (o := .cells #[.int .i64 ((rd_T42 l1 x10_1).f0), .int .i64 ((rd_T42 l1 x10_1).f1), .int .i64 ((rd_T42 l1 x10_1).f2.f0), .int .i64 ((rd_T42 l1 x10_1).f2.f1), .int .i64 ((rd_T42 l1 x10_1).f3), .int .i64 ((rd_T42 l1 x10_1).f4)] 42 (0, 0)) (by (with_reducible repeat (first | refine blk_drewN ?_ _ | refine blk_drew ?_ | refine blk_alloc ?_ _)); exact BK241.out) hb)
          have n3_ := Aside0.mk (below_step (by repeat (first | (with_reducible first | exact HB.out | apply below_alloc | apply pw_below_drewN | apply below_drew1 | refine below_set ?_ GE241.out) | exact HB.out)) hb)
          clear HO_0
          clear HO_8
          clear BK241
          clear HB
          have HO_0 := n0_
          have HO_8 := n1_
          have BK241 := n2_
          have HB := n3_
          clear n0_ n1_ n2_ n3_
          (try clear hb)
          (try clear hb2)
          (try clear hk)
          (try clear hi)
          refine hK.out _ _ ⟨(blk_cell BK241.out 0).trans rfl, (blk_cell BK241.out 1).trans rfl, (blk_cell BK241.out 2).trans rfl, (blk_cell BK241.out 3).trans rfl, (blk_cell BK241.out 4).trans rfl, (blk_cell BK241.out 5).trans rfl⟩ (fun hHeld => ?_)
          clear hK K
          refine norm_ (a' := ?_) ?_ ?_
          rotate_left
          ·show Act.put _ (some 56) _ = _
           simp only [Act.put, List.setIfInBounds_toArray, List.set_cons_zero, List.set_cons_succ, i64_w, i32_w]
           rfl
          refine last_ (i := 7) (N := none) #[true, true, true, true, true, true, true, true] rfl rfl (one_of HT_.out (by kernel_rfl)) (by decide) (fun K hK => ?_)
          have hs36 : w35.cell? ⟨gb241, 0, none⟩ = some (.int .i64 ((rd_T42 l1 x10_1).f0)) := (blk_cell BK241.out 0).trans rfl
          have hfs36 := blk_frozen BK241.out 0
          have hs37 : w35.cell? ⟨gb241, 1, none⟩ = some (.int .i64 ((rd_T42 l1 x10_1).f1)) := (blk_cell BK241.out 1).trans rfl
          have hfs37 := blk_frozen BK241.out 1
          have hs38 : w35.cell? ⟨gb241, 2, none⟩ = some (.int .i64 ((rd_T42 l1 x10_1).f2.f0)) := (blk_cell BK241.out 2).trans rfl
          have hfs38 := blk_frozen BK241.out 2
          have hs39 : w35.cell? ⟨gb241, 3, none⟩ = some (.int .i64 ((rd_T42 l1 x10_1).f2.f1)) := (blk_cell BK241.out 3).trans rfl
          have hfs39 := blk_frozen BK241.out 3
          have hs40 : w35.cell? ⟨gb241, 4, none⟩ = some (.int .i64 ((rd_T42 l1 x10_1).f3)) := (blk_cell BK241.out 4).trans rfl
          have hfs40 := blk_frozen BK241.out 4
          have hs41 : w35.cell? ⟨gb241, 5, none⟩ = some (.int .i64 ((rd_T42 l1 x10_1).f4)) := (blk_cell BK241.out 5).trans rfl
          have hfs41 := blk_frozen BK241.out 5
          refine skip_ (w1 := ?_) (by rfl) rfl ?_ ?_
          rotate_left
          ·go_simp
           rfl
          refine hK.out _ _ ?_
          clear hK K
          refine done_ (done_of HT_.out (by kernel_rfl)) ?_
          have hcz42_0 : w35.cell? ⟨gb241, 0, none⟩ = some (.int .i64 ((rd_T42 l1 x10_1).f0)) := (blk_cell BK241.out 0).trans rfl
          have hcz42_1 : w35.cell? ⟨gb241, 1, none⟩ = some (.int .i64 ((rd_T42 l1 x10_1).f1)) := (blk_cell BK241.out 1).trans rfl
          have hcz42_2 : w35.cell? ⟨gb241, 2, none⟩ = some (.int .i64 ((rd_T42 l1 x10_1).f2.f0)) := (blk_cell BK241.out 2).trans rfl
          have hcz42_3 : w35.cell? ⟨gb241, 3, none⟩ = some (.int .i64 ((rd_T42 l1 x10_1).f2.f1)) := (blk_cell BK241.out 3).trans rfl
          have hcz42_4 : w35.cell? ⟨gb241, 4, none⟩ = some (.int .i64 ((rd_T42 l1 x10_1).f3)) := (blk_cell BK241.out 4).trans rfl
          have hcz42_5 : w35.cell? ⟨gb241, 5, none⟩ = some (.int .i64 ((rd_T42 l1 x10_1).f4)) := (blk_cell BK241.out 5).trans rfl
          have hfz42_0 := blk_frozen BK241.out 0
          have hfz42_1 := blk_frozen BK241.out 1
          have hfz42_2 := blk_frozen BK241.out 2
          have hfz42_3 := blk_frozen BK241.out 3
          have hfz42_4 := blk_frozen BK241.out 4
          have hfz42_5 := blk_frozen BK241.out 5
          obtain ⟨Ao43, co43, eo43⟩ := Kd.V_slice HO_8.out
          subst eo43
          try go_wp2_with (first | ((with_reducible refine gate_callee (f := 37) rfl ?_); refine goesL_ (some 61) rfl rfl Try.func37 (by kernel_rfl) rfl #[.slice Ao43 x8_13.length co43, .agg #[.int .i64 t255, .int .i64 t256, .int .i64 t257, .int .i64 t258, .int .i64 t259, .int .i64 t260]] rfl (by (try simp only [List.map_toArray, List.map_cons, List.map_nil]); first | done | rfl | (simp only [List.length_drop, List.length_take]; rfl)) ?_; (with_reducible refine (plenumref42_add.calls kj13 _ _ x8_13 t255 t256 t257 t258 t259 t260 t261 _ ?side1 ?side2 A31.out).mono ?_); (case side1 => refine (Kd.V_reads' (e := 42) (base := w.heap.size) (ok := fun k_ => ((P0_ k_ ∨ w.heap.size ≤ k_) ∧ k_ ≠ gb241)) (n := x8_13.length) (c := co43) ?_).2.2; exact (by (with_reducible repeat (first | apply Kd.V_alloc | apply Kd.V_drewN | apply Kd.V_drew)); exact (Kd.V_mono (Kd.V_far (p := ⟨gb241, 5, none⟩) (Kd.V_far (p := ⟨gb241, 4, none⟩) (Kd.V_far (p := ⟨gb241, 3, none⟩) (Kd.V_far (p := ⟨gb241, 2, none⟩) (Kd.V_far (p := ⟨gb241, 1, none⟩) (Kd.V_far (p := ⟨gb241, 0, none⟩) (Kd.V_mono HO_8.out (fun k_ hk => (⟨hk, hk.2⟩ : _ ∧ k_ ≠ gb241))) (fun _ hk => hk.2) (.int .i64 t255)) (fun _ hk => hk.2) (.int .i64 t256)) (fun _ hk => hk.2) (.int .i64 t257)) (fun _ hk => hk.2) (.int .i64 t258)) (fun _ hk => hk.2) (.int .i64 t259)) (fun _ hk => hk.2) (.int .i64 t260)) (fun _ h_ => h_.1)))); (case side2 => exact (Kd.V_reads' HO_8.out).2.1); rintro e w44 ⟨v262, rfl, ho0, hb⟩; refine ⟨_, rfl, ?_⟩; have n0_ := Aside0.mk (Kd.V_elder' (by (with_reducible repeat (first | apply Kd.V_alloc | apply Kd.V_drewN | apply Kd.V_drew)); exact (Kd.V_mono (Kd.V_far (p := ⟨gb241, 5, none⟩) (Kd.V_far (p := ⟨gb241, 4, none⟩) (Kd.V_far (p := ⟨gb241, 3, none⟩) (Kd.V_far (p := ⟨gb241, 2, none⟩) (Kd.V_far (p := ⟨gb241, 1, none⟩) (Kd.V_far (p := ⟨gb241, 0, none⟩) (Kd.V_mono HO_0.out (fun k_ hk => (⟨hk, hk.2⟩ : _ ∧ k_ ≠ gb241))) (fun _ hk => hk.2) (.int .i64 t255)) (fun _ hk => hk.2) (.int .i64 t256)) (fun _ hk => hk.2) (.int .i64 t257)) (fun _ hk => hk.2) (.int .i64 t258)) (fun _ hk => hk.2) (.int .i64 t259)) (fun _ hk => hk.2) (.int .i64 t260)) (fun _ h_ => h_.1))) (Kd.R_base ho0) hb); have n1_ := Aside0.mk (Kd.V_elder' (by (with_reducible repeat (first | apply Kd.V_alloc | apply Kd.V_drewN | apply Kd.V_drew)); exact (Kd.V_mono (Kd.V_far (p := ⟨gb241, 5, none⟩) (Kd.V_far (p := ⟨gb241, 4, none⟩) (Kd.V_far (p := ⟨gb241, 3, none⟩) (Kd.V_far (p := ⟨gb241, 2, none⟩) (Kd.V_far (p := ⟨gb241, 1, none⟩) (Kd.V_far (p := ⟨gb241, 0, none⟩) (Kd.V_mono HO_8.out (fun k_ hk => (⟨hk, hk.2⟩ : _ ∧ k_ ≠ gb241))) (fun _ hk => hk.2) (.int .i64 t255)) (fun _ hk => hk.2) (.int .i64 t256)) (fun _ hk => hk.2) (.int .i64 t257)) (fun _ hk => hk.2) (.int .i64 t258)) (fun _ hk => hk.2) (.int .i64 t259)) (fun _ hk => hk.2) (.int .i64 t260)) (fun _ h_ => h_.1))) (Kd.R_base ho0) hb); have n2_ := Aside0.mk (Kd.R_lower (Kd.R_newB (Kd.R_newM (M := fun k_ => (w.heap.size ≤ k_)) ho0 (below_size (by repeat (first | (with_reducible first | exact HB.out | apply below_alloc | apply pw_below_drewN | apply below_drew1 | refine below_set ?_ GE241.out) | exact HB.out))) (fun k_ h_ => h_)) (g := gb241) (o := .cells #[.int .i64 t255, .int .i64 t256, .int .i64 t257, .int .i64 t258, .int .i64 t259, .int .i64 t260] 42 (0, 0)) (by (with_reducible repeat (first | refine blk_drewN ?_ _ | refine blk_drew ?_ | refine blk_alloc ?_ _)); refine blk_put (cs := #[.int .i64 t255, .int .i64 t256, .int .i64 t257, .int .i64 t258, .int .i64 t259, .int .i64 ((rd_T42 l1 x10_1).f4)]) ?_ 5 _ rfl; (with_reducible repeat (first | refine blk_drewN ?_ _ | refine blk_drew ?_ | refine blk_alloc ?_ _)); refine blk_put (cs := #[.int .i64 t255, .int .i64 t256, .int .i64 t257, .int .i64 t258, .int .i64 ((rd_T42 l1 x10_1).f3), .int .i64 ((rd_T42 l1 x10_1).f4)]) ?_ 4 _ rfl; (with_reducible repeat (first | refine blk_drewN ?_ _ | refine blk_drew ?_ | refine blk_alloc ?_ _)); refine blk_put (cs := #[.int .i64 t255, .int .i64 t256, .int .i64 t257, .int .i64 ((rd_T42 l1 x10_1).f2.f1), .int .i64 ((rd_T42 l1 x10_1).f3), .int .i64 ((rd_T42 l1 x10_1).f4)]) ?_ 3 _ rfl; (with_reducible repeat (first | refine blk_drewN ?_ _ | refine blk_drew ?_ | refine blk_alloc ?_ _)); refine blk_put (cs := #[.int .i64 t255, .int .i64 t256, .int .i64 ((rd_T42 l1 x10_1).f2.f0), .int .i64 ((rd_T42 l1 x10_1).f2.f1), .int .i64 ((rd_T42 l1 x10_1).f3), .int .i64 ((rd_T42 l1 x10_1).f4)]) ?_ 2 _ rfl; (with_reducible repeat (first | refine blk_drewN ?_ _ | refine blk_drew ?_ | refine blk_alloc ?_ _)); refine blk_put (cs := #[.int .i64 t255, .int .i64 ((rd_T42 l1 x10_1).f1), .int .i64 ((rd_T42 l1 x10_1).f2.f0), .int .i64 ((rd_T42 l1 x10_1).f2.f1), .int .i64 ((rd_T42 l1 x10_1).f3), .int .i64 ((rd_T42 l1 x10_1).f4)]) ?_ 1 _ rfl; (with_reducible repeat (first | refine blk_drewN ?_ _ | refine blk_drew ?_ | refine blk_alloc ?_ _)); refine blk_put (cs := #[.int .i64 ((rd_T42 l1 x10_1).f0), .int .i64 ((rd_T42 l1 x10_1).f1), .int .i64 ((rd_T42 l1 x10_1).f2.f0), .int .i64 ((rd_T42 l1 x10_1).f2.f1), .int .i64 ((rd_T42 l1 x10_1).f3), .int .i64 ((rd_T42 l1 x10_1).f4)]) ?_ 0 _ rfl; (with_reducible repeat (first | refine blk_drewN ?_ _ | refine blk_drew ?_ | refine blk_alloc ?_ _)); exact BK241.out)) (below_size (by repeat (first | (with_reducible first | exact HB.out | apply below_alloc | apply pw_below_drewN | apply below_drew1 | refine below_set ?_ GE241.out) | exact HB.out)))); have n3_ := Aside0.mk (blk_below (g := gb241) (o := .cells #[.int .i64 t255, .int .i64 t256, .int .i64 t257, .int .i64 t258, .int .i64 t259, .int .i64 t260] 42 (0, 0)) (by (with_reducible repeat (first | refine blk_drewN ?_ _ | refine blk_drew ?_ | refine blk_alloc ?_ _)); refine blk_put (cs := #[.int .i64 t255, .int .i64 t256, .int .i64 t257, .int .i64 t258, .int .i64 t259, .int .i64 ((rd_T42 l1 x10_1).f4)]) ?_ 5 _ rfl; (with_reducible repeat (first | refine blk_drewN ?_ _ | refine blk_drew ?_ | refine blk_alloc ?_ _)); refine blk_put (cs := #[.int .i64 t255, .int .i64 t256, .int .i64 t257, .int .i64 t258, .int .i64 ((rd_T42 l1 x10_1).f3), .int .i64 ((rd_T42 l1 x10_1).f4)]) ?_ 4 _ rfl; (with_reducible repeat (first | refine blk_drewN ?_ _ | refine blk_drew ?_ | refine blk_alloc ?_ _)); refine blk_put (cs := #[.int .i64 t255, .int .i64 t256, .int .i64 t257, .int .i64 ((rd_T42 l1 x10_1).f2.f1), .int .i64 ((rd_T42 l1 x10_1).f3), .int .i64 ((rd_T42 l1 x10_1).f4)]) ?_ 3 _ rfl; (with_reducible repeat (first | refine blk_drewN ?_ _ | refine blk_drew ?_ | refine blk_alloc ?_ _)); refine blk_put (cs := #[.int .i64 t255, .int .i64 t256, .int .i64 ((rd_T42 l1 x10_1).f2.f0), .int .i64 ((rd_T42 l1 x10_1).f2.f1), .int .i64 ((rd_T42 l1 x10_1).f3), .int .i64 ((rd_T42 l1 x10_1).f4)]) ?_ 2 _ rfl; (with_reducible repeat (first | refine blk_drewN ?_ _ | refine blk_drew ?_ | refine blk_alloc ?_ _)); refine blk_put (cs := #[.int .i64 t255, .int .i64 ((rd_T42 l1 x10_1).f1), .int .i64 ((rd_T42 l1 x10_1).f2.f0), .int .i64 ((rd_T42 l1 x10_1).f2.f1), .int .i64 ((rd_T42 l1 x10_1).f3), .int .i64 ((rd_T42 l1 x10_1).f4)]) ?_ 1 _ rfl; (with_reducible repeat (first | refine blk_drewN ?_ _ | refine blk_drew ?_ | refine blk_alloc ?_ _)); refine blk_put (cs := #[.int .i64 ((rd_T42 l1 x10_1).f0), .int .i64 ((rd_T42 l1 x10_1).f1), .int .i64 ((rd_T42 l1 x10_1).f2.f0), .int .i64 ((rd_T42 l1 x10_1).f2.f1), .int .i64 ((rd_T42 l1 x10_1).f3), .int .i64 ((rd_T42 l1 x10_1).f4)]) ?_ 0 _ rfl; (with_reducible repeat (first | refine blk_drewN ?_ _ | refine blk_drew ?_ | refine blk_alloc ?_ _)); exact BK241.out) hb); have n4_ := Aside0.mk (below_step (by repeat (first | (with_reducible first | exact HB.out | apply below_alloc | apply pw_below_drewN | apply below_drew1 | refine below_set ?_ GE241.out) | exact HB.out)) hb); clear HO_0; clear HO_8; clear BK241; clear HB; have HO_0 := n0_; have HO_8 := n1_; have HO263 := n2_; have BK241 := n3_; have HB := n4_; clear n0_ n1_ n2_ n3_ n4_; (try clear hb); (try clear hb2); (try clear hk); (try clear hi); (try clear ho0)))
          go_roundg kj13
          case measure => have := HK1.out; have := HJ13.out; omega
          case rel => exact ⟨(t261), (x9_1), (wrap64 (x10_1 + 1)), (by first | rfl | (simp; done) | (simp [*]; done)), (by first | rfl | (simp; done) | (simp [*]; done)), H', ⟨by have := HK1.out; have := HJ13.out; omega⟩, ⟨by (with_reducible repeat (first | apply Kd.V_alloc | apply Kd.V_drewN | apply Kd.V_drew)); exact Kd.V_mono HO_0.out (fun _ hk => hk.1.1)⟩, ⟨Kd.V_mono (Kd.R_V (by (with_reducible repeat (first | apply Kd.R_alloc | apply Kd.R_drewN | apply Kd.R_drew)); exact Kd.R_mono HO263.out (fun _ hk => hk.1.1))) (fun k_ hk => by first | exact ⟨(.inr (hk.1)), hk.2⟩ | exact (.inr (hk)))⟩, ⟨by repeat (first | (with_reducible first | exact HB.out | apply below_alloc | apply pw_below_drewN | apply below_drew1 | refine below_set ?_ GE241.out) | exact HB.out)⟩⟩
         ·rw [if_neg c27] at H
          have c27b0 : decide (0 < ((rd_T42 l1 x10_1).f4)) = false := decide_eq_false c27
          clear c27
          replace H := Option.bind_eq_some_iff.mp H
          obtain ⟨t264, A450, H⟩ := H
          replace H : (plenumref42_Take.l0 kj13 l0 l1 t264 (wrap64 (x9_1 + 1)) (wrap64 (x10_1 + 1))) = some (r1, r2, r3) := H
          have A45 := Aside0.mk A450
          clear A450
          have H' := Aside0.mk H
          clear H
          have hcz46_0 : wc.cell? ⟨gb241, 0, none⟩ = some (.int .i64 ((rd_T42 l1 x10_1).f0)) := (blk_cell BK241.out 0).trans rfl
          have hcz46_1 : wc.cell? ⟨gb241, 1, none⟩ = some (.int .i64 ((rd_T42 l1 x10_1).f1)) := (blk_cell BK241.out 1).trans rfl
          have hcz46_2 : wc.cell? ⟨gb241, 2, none⟩ = some (.int .i64 ((rd_T42 l1 x10_1).f2.f0)) := (blk_cell BK241.out 2).trans rfl
          have hcz46_3 : wc.cell? ⟨gb241, 3, none⟩ = some (.int .i64 ((rd_T42 l1 x10_1).f2.f1)) := (blk_cell BK241.out 3).trans rfl
          have hcz46_4 : wc.cell? ⟨gb241, 4, none⟩ = some (.int .i64 ((rd_T42 l1 x10_1).f3)) := (blk_cell BK241.out 4).trans rfl
          have hcz46_5 : wc.cell? ⟨gb241, 5, none⟩ = some (.int .i64 ((rd_T42 l1 x10_1).f4)) := (blk_cell BK241.out 5).trans rfl
          have hfz46_0 := blk_frozen BK241.out 0
          have hfz46_1 := blk_frozen BK241.out 1
          have hfz46_2 := blk_frozen BK241.out 2
          have hfz46_3 := blk_frozen BK241.out 3
          have hfz46_4 := blk_frozen BK241.out 4
          have hfz46_5 := blk_frozen BK241.out 5
          obtain ⟨Ao47, co47, eo47⟩ := Kd.V_slice HO_8.out
          subst eo47
          go_wp2_with (first | ((with_reducible refine gate_callee (f := 37) rfl ?_); refine goesL_ (some 61) rfl rfl Try.func37 (by kernel_rfl) rfl #[.slice Ao47 x8_13.length co47, .agg #[.int .i64 ((rd_T42 l1 x10_1).f0), .int .i64 ((rd_T42 l1 x10_1).f1), .int .i64 ((rd_T42 l1 x10_1).f2.f0), .int .i64 ((rd_T42 l1 x10_1).f2.f1), .int .i64 ((rd_T42 l1 x10_1).f3), .int .i64 ((rd_T42 l1 x10_1).f4)]] rfl (by (try simp only [List.map_toArray, List.map_cons, List.map_nil]); first | done | rfl | (simp only [List.length_drop, List.length_take]; rfl)) ?_; (with_reducible refine (plenumref42_add.calls kj13 _ _ x8_13 ((rd_T42 l1 x10_1).f0) ((rd_T42 l1 x10_1).f1) ((rd_T42 l1 x10_1).f2.f0) ((rd_T42 l1 x10_1).f2.f1) ((rd_T42 l1 x10_1).f3) ((rd_T42 l1 x10_1).f4) t264 _ ?side1 ?side2 A45.out).mono ?_); (case side1 => repeat (first | exact (Kd.V_reads' HO_8.out).2.2 | (with_reducible refine Kd.C_alloc ?_ _) | (with_reducible refine Kd.C_drewN ?_ _) | (with_reducible refine Kd.C_drew ?_))); (case side2 => exact (Kd.V_reads' HO_8.out).2.1); rintro e w48 ⟨v265, rfl, ho0, hb⟩; refine ⟨_, rfl, ?_⟩; have n0_ := Aside0.mk (Kd.V_elder' (by (with_reducible repeat (first | apply Kd.V_alloc | apply Kd.V_drewN | apply Kd.V_drew)); exact HO_0.out) (Kd.R_base ho0) hb); have n1_ := Aside0.mk (Kd.V_elder' (by (with_reducible repeat (first | apply Kd.V_alloc | apply Kd.V_drewN | apply Kd.V_drew)); exact HO_8.out) (Kd.R_base ho0) hb); have n2_ := Aside0.mk (Kd.R_lower (Kd.R_newB (Kd.R_newM (M := fun k_ => (w.heap.size ≤ k_)) ho0 (below_size (by repeat (first | (with_reducible first | exact HB.out | apply below_alloc | apply pw_below_drewN | apply below_drew1 | refine below_set ?_ GE241.out) | exact HB.out))) (fun k_ h_ => h_)) (g := gb241) (o := .cells #[.int .i64 ((rd_T42 l1 x10_1).f0), .int .i64 ((rd_T42 l1 x10_1).f1), .int .i64 ((rd_T42 l1 x10_1).f2.f0), .int .i64 ((rd_T42 l1 x10_1).f2.f1), .int .i64 ((rd_T42 l1 x10_1).f3), .int .i64 ((rd_T42 l1 x10_1).f4)] 42 (0, 0)) (by (with_reducible repeat (first | refine blk_drewN ?_ _ | refine blk_drew ?_ | refine blk_alloc ?_ _)); exact BK241.out)) (below_size (by repeat (first | (with_reducible first | exact HB.out | apply below_alloc | apply pw_below_drewN | apply below_drew1 | refine below_set ?_ GE241.out) | exact HB.out)))); have n3_ := Aside0.mk (blk_below (g := gb241) (o := .cells #[.int .i64 ((rd_T42 l1 x10_1).f0), .int .i64 ((rd_T42 l1 x10_1).f1), .int .i64 ((rd_T42 l1 x10_1).f2.f0), .int .i64 ((rd_T42 l1 x10_1).f2.f1), .int .i64 ((rd_T42 l1 x10_1).f3), .int .i64 ((rd_T42 l1 x10_1).f4)] 42 (0, 0)) (by (with_reducible repeat (first | refine blk_drewN ?_ _ | refine blk_drew ?_ | refine blk_alloc ?_ _)); exact BK241.out) hb); have n4_ := Aside0.mk (below_step (by repeat (first | (with_reducible first | exact HB.out | apply below_alloc | apply pw_below_drewN | apply below_drew1 | refine below_set ?_ GE241.out) | exact HB.out)) hb); clear HO_0; clear HO_8; clear BK241; clear HB; have HO_0 := n0_; have HO_8 := n1_; have HO266 := n2_; have BK241 := n3_; have HB := n4_; clear n0_ n1_ n2_ n3_ n4_; (try clear hb); (try clear hb2); (try clear hk); (try clear hi); (try clear ho0)))
          go_roundg kj13
          case measure => have := HK1.out; have := HJ13.out; omega
          case rel => exact ⟨(t264), (wrap64 (x9_1 + 1)), (wrap64 (x10_1 + 1)), (by first | rfl | (simp; done) | (simp [*]; done)), (by first | rfl | (simp; done) | (simp [*]; done)), H', ⟨by have := HK1.out; have := HJ13.out; omega⟩, ⟨by (with_reducible repeat (first | apply Kd.V_alloc | apply Kd.V_drewN | apply Kd.V_drew)); exact Kd.V_mono HO_0.out (fun _ hk => hk.1.1)⟩, ⟨Kd.V_mono (Kd.R_V (by (with_reducible repeat (first | apply Kd.R_alloc | apply Kd.R_drewN | apply Kd.R_drew)); exact Kd.R_mono HO266.out (fun _ hk => hk.1.1))) (fun k_ hk => by first | exact ⟨(.inr (hk.1)), hk.2⟩ | exact (.inr (hk)))⟩, ⟨by repeat (first | (with_reducible first | exact HB.out | apply below_alloc | apply pw_below_drewN | apply below_drew1 | refine below_set ?_ GE241.out) | exact HB.out)⟩⟩
     ·rw [if_neg c7] at H
      exact absurd H (by simp)
    ·rw [if_neg c6] at H
     have c6b0 : decide (x10_1 < (l1.length : Int)) = false := decide_eq_false c6
     clear c6
     replace H := Option.bind_eq_some_iff.mp H
     obtain ⟨t239, A490, H⟩ := H
     replace H : (if t239 = true then (some (x8_1, x9_1, 0)) else (some (l0, 0, 15))) = some (r1, r2, r3) := H
     have A49 := Aside0.mk A490
     clear A490
     by_cases c50 : t239 = true
     ·subst c50
      have H1 : (some (x8_1, x9_1, 0)) = some (r1, r2, r3) := by rw [if_pos rfl] at H; exact H
      clear H
      have H := H1
      clear H1
      simp only [Option.some.injEq, Prod.mk.injEq] at H
      obtain ⟨rfl, rfl, rfl⟩ := H
      obtain ⟨Ao51, co51, eo51⟩ := Kd.V_slice HO_8.out
      subst eo51
      go_wp2_with (first | ((with_reducible refine gate_callee (f := 39) rfl ?_); refine goesL_ (some 63) rfl rfl Try.func39 (by kernel_rfl) rfl #[.slice Ao51 x8_1.length co51] rfl (by (try simp only [List.map_toArray, List.map_cons, List.map_nil]); first | done | rfl | (simp only [List.length_drop, List.length_take]; rfl)) ?_; (with_reducible refine (plenumref42_Rising.calls k1 _ _ x8_1 true _ ?side1 ?side2 A49.out).mono ?_); (case side1 => repeat (first | exact (Kd.V_reads' HO_8.out).2.2 | (with_reducible refine Kd.C_alloc ?_ _) | (with_reducible refine Kd.C_drewN ?_ _) | (with_reducible refine Kd.C_drew ?_))); (case side2 => exact (Kd.V_reads' HO_8.out).2.1); rintro e w' ⟨rfl, ⟨nd, rfl⟩⟩; refine ⟨_, rfl, ?_⟩))
      go_ret3
      exact ⟨_, by first | rfl | (simp [errW_none, errW_some] <;> rfl) | (simp [*, errW_none, errW_some] <;> rfl), by (with_reducible repeat (first | apply Kd.V_alloc | apply Kd.V_drewN | apply Kd.V_drew)); exact HO_8.out, by repeat (first | (with_reducible first | exact HB.out | apply below_alloc | apply pw_below_drewN | apply below_drew1) | exact HB.out)⟩
     ·replace c50 := Bool.eq_false_iff.mpr c50
      subst c50
      have H1 : (some (l0, 0, 15)) = some (r1, r2, r3) := by rw [if_neg (show ¬ (false = true) by decide)] at H; exact H
      clear H
      have H := H1
      clear H1
      simp only [Option.some.injEq, Prod.mk.injEq] at H
      obtain ⟨rfl, rfl, rfl⟩ := H
      obtain ⟨Ao52, co52, eo52⟩ := Kd.V_slice HO_8.out
      subst eo52
      go_wp2_with (first | ((with_reducible refine gate_callee (f := 39) rfl ?_); refine goesL_ (some 63) rfl rfl Try.func39 (by kernel_rfl) rfl #[.slice Ao52 x8_1.length co52] rfl (by (try simp only [List.map_toArray, List.map_cons, List.map_nil]); first | done | rfl | (simp only [List.length_drop, List.length_take]; rfl)) ?_; (with_reducible refine (plenumref42_Rising.calls k1 _ _ x8_1 false _ ?side1 ?side2 A49.out).mono ?_); (case side1 => repeat (first | exact (Kd.V_reads' HO_8.out).2.2 | (with_reducible refine Kd.C_alloc ?_ _) | (with_reducible refine Kd.C_drewN ?_ _) | (with_reducible refine Kd.C_drew ?_))); (case side2 => exact (Kd.V_reads' HO_8.out).2.1); rintro e w' ⟨rfl, ⟨nd, rfl⟩⟩; refine ⟨_, rfl, ?_⟩))
      go_ret3
      exact ⟨_, by first | rfl | (simp [errW_none, errW_some] <;> rfl) | (simp [*, errW_none, errW_some] <;> rfl), by (with_reducible repeat (first | apply Kd.V_alloc | apply Kd.V_drewN | apply Kd.V_drew)); exact HO_0.out, by repeat (first | (with_reducible first | exact HB.out | apply below_alloc | apply pw_below_drewN | apply below_drew1) | exact HB.out)⟩
 ·rw [if_neg c4] at H
  have c4b0 : (t238 == 0) = false := beq_eq_false_iff_ne.mpr c4
  have c4b1 : (t238 != 0) = true := bne_iff_ne.mpr c4
  simp only [Option.some.injEq, Prod.mk.injEq] at H
  obtain ⟨rfl, rfl, rfl⟩ := H
  go_enter Try.func14, Try.ntmps14
  go_wp2_with (first | ((with_reducible refine gate_callee (f := 25) rfl ?_); refine goesL_ (some 14) rfl rfl Try.func25 (by kernel_rfl) rfl #[.slice A1 l1.length c1] rfl (by (try simp only [List.map_toArray, List.map_cons, List.map_nil]); first | done | rfl | (simp only [List.length_drop, List.length_take]; rfl)) ?_; (with_reducible refine (plenumref42_Check.calls k _ _ l1 t238 _ ?side1 ?side2 A3.out).mono ?_); (case side1 => repeat (first | exact HR1.out | (with_reducible refine Kd.C_alloc ?_ _) | (with_reducible refine Kd.C_drewN ?_ _) | (with_reducible refine Kd.C_drew ?_))); (case side2 => exact HC1.out); rintro e w53 ⟨rfl, hb⟩; refine ⟨_, rfl, ?_⟩; have n0_ := Aside0.mk (Kd.V_below (by (with_reducible repeat (first | apply Kd.V_alloc | apply Kd.V_drewN | apply Kd.V_drew)); exact HO0.out) hb); have n1_ := Aside0.mk (below_step (by repeat (first | (with_reducible first | exact HB.out | apply below_alloc | apply pw_below_drewN | apply below_drew1) | exact HB.out)) hb); clear HO0; clear HB; have HO0 := n0_; have HB := n1_; clear n0_ n1_; (try clear hb); (try clear hb2); (try clear hk); (try clear hi)))
  go_ret3
  exact ⟨_, by first | rfl | (simp [errW_none, errW_some] <;> rfl) | (simp [*, errW_none, errW_some] <;> rfl), by (with_reducible repeat (first | apply Kd.V_alloc | apply Kd.V_drewN | apply Kd.V_drew)); exact HO0.out, by repeat (first | (with_reducible first | exact HB.out | apply below_alloc | apply pw_below_drewN | apply below_drew1) | exact HB.out)⟩

/-! ### plenumref42_Lost: function 18 -/
def plenumref42_Lost.l0 : Nat → List (S42) → Int → Int → Option (Int)
 | 0, _, _, _ => none
 | k + 1, x0, x3, x4 => if x4 < (x0.length : Int) then (if 0 ≤ x4 then (plenumref42_Lost.l0 k x0 (wrap64 (x3 + ((rd_T42 x0 x4).f4))) (wrap64 (x4 + 1))) else (none)) else (some x3)
def plenumref42_Lost.f (k : Nat) (l0 : List (S42)) : Option (Int) := plenumref42_Lost.l0 k l0 0 0
theorem plenumref42_Lost.mono_l : ∀ k, (∀ y0 y1 y2, LeO (plenumref42_Lost.l0 k y0 y1 y2) (plenumref42_Lost.l0 (k + 1) y0 y1 y2))
 | 0 => fun _ _ _ r h => by simp [plenumref42_Lost.l0] at h
 | k + 1 => by
  have ih0 := plenumref42_Lost.mono_l k
  ·intro y0 y1 y2
   unfold plenumref42_Lost.l0
   repeat' first
   | (with_reducible exact ih0 _ _ _)
   | (with_reducible exact LeO.refl _)
   | (with_reducible exact LeO.none _)
   | (with_reducible refine LeO.ite ?_ ?_)
   | (with_reducible refine LeO.bind ?_ (fun _ => ?_))
   | exact ih0 _ _ _
   | exact LeO.none _
   | refine LeO.ite ?_ ?_
   | refine LeO.bind ?_ (fun _ => ?_)
theorem plenumref42_Lost.mono : ∀ a0 k, LeO (plenumref42_Lost.f k a0) (plenumref42_Lost.f (k + 1) a0) := by
 intro a0 k
 have ih0 := plenumref42_Lost.mono_l k
 unfold plenumref42_Lost.f
 repeat' first
   | (with_reducible exact ih0 _ _ _)
   | (with_reducible exact LeO.refl _)
   | (with_reducible exact LeO.none _)
   | (with_reducible refine LeO.ite ?_ ?_)
   | (with_reducible refine LeO.bind ?_ (fun _ => ?_))
   | exact ih0 _ _ _
   | exact LeO.none _
   | refine LeO.ite ?_ ?_
   | refine LeO.bind ?_ (fun _ => ?_)
set_option maxHeartbeats 8000000 in
set_option maxRecDepth 100000 in
theorem plenumref42_Lost.calls (k : Nat) (A0 : Option Addr) (c0 : Nat) (l0 : List (S42)) (r : Int) (w : World) (hr0 : Kd.C k42 w A0 l0.length l0) (hc0 : l0.length ≤ c0) (h : plenumref42_Lost.f k l0 = some r) :
  Calls Try.prog 18 #[.slice A0 l0.length c0] w fun e w' => e = .returned (.int .i64 r) ∧ Drawn0 w w' := by
 have HR0 := Aside0.mk hr0
 have HC0 := Aside0.mk hc0
 clear hr0 hc0
 have H : (plenumref42_Lost.l0 k l0 0 0) = some r := h
 clear h
 have H' := Aside0.mk H
 clear H
 go_enter Try.func18, Try.ntmps18
 go_wp2
 go_loopg [3, 4] k (fun kq v3 v4 w' => ∃ (x3_1 : Int) (x4_1 : Int), v3 = .int .i64 x3_1 ∧ v4 = .int .i64 x4_1 ∧ Aside0 (plenumref42_Lost.l0 kq l0 x3_1 x4_1 = some r) ∧ Aside0 (kq ≤ k) ∧ Drawn0 w w')
 case atStart => exact ⟨(0), (0), (by first | rfl | (simp; done) | (simp [*]; done)), (by first | rfl | (simp; done) | (simp [*]; done)), H', ⟨Nat.le_refl _⟩, by repeat (first | exact Drawn0.refl _ | apply Drawn0.step)⟩
 case round =>
  clear H'
  try clear c1
  obtain ⟨x3_1, x4_1, rfl, rfl, HA, HK1, ⟨m1, rfl⟩⟩ := hrel
  cases gk with
  | zero => exact absurd HA.out (by simp [plenumref42_Lost.l0])
  | succ k1 =>
   have H := HA.out
   clear HA
   simp only [plenumref42_Lost.l0] at H
   by_cases c2 : x4_1 < (l0.length : Int)
   ·rw [if_pos c2] at H
    have c2b0 : decide (x4_1 < (l0.length : Int)) = true := decide_eq_true c2
    clear c2
    by_cases c3 : 0 ≤ x4_1
    ·rw [if_pos c3] at H
     have c3b0 : decide (0 ≤ x4_1) = true := decide_eq_true c3
     clear c3
     have H' := Aside0.mk H
     clear H
     have p267 : 0 ≤ (x4_1 : Int) := of_decide_eq_true (by first | (with_reducible assumption) | assumption)
     have q267 : x4_1 < (l0.length : Int) := of_decide_eq_true (by first | (with_reducible assumption) | assumption)
     obtain ⟨ad267, e267, hx267_0, hx267_1, hx267_2, hx267_3, hx267_4, hx267_5⟩ := at_T42 HR0.out x4_1 p267 q267
     cases e267
     replace p267 := eq_true p267
     replace q267 := eq_true q267
     go_wp2
     go_roundg k1
     case measure => have := HK1.out; omega
     case rel => exact ⟨(wrap64 (x3_1 + ((rd_T42 l0 x4_1).f4))), (wrap64 (x4_1 + 1)), (by first | rfl | (simp; done) | (simp [*]; done)), (by first | rfl | (simp; done) | (simp [*]; done)), H', ⟨by have := HK1.out; omega⟩, by repeat (first | exact Drawn0.refl _ | apply Drawn0.step)⟩
    ·rw [if_neg c3] at H
     exact absurd H (by simp)
   ·rw [if_neg c2] at H
    have c2b0 : decide (x4_1 < (l0.length : Int)) = false := decide_eq_false c2
    clear c2
    obtain rfl := Option.some.inj H
    go_wp2
    go_ret
    exact ⟨by first | rfl | (simp; done) | (simp [*]; done), by repeat (first | exact Drawn0.refl _ | apply Drawn0.step)⟩

/-! ### plenumref42_Same: function 19 -/
def plenumref42_Same.l0 : Nat → List (S42) → List (S42) → Int → Option (Bool)
 | 0, _, _, _ => none
 | k + 1, x0, x1, x5 => if x5 < (x0.length : Int) then (if 0 ≤ x5 then (if x5 < (x1.length : Int) then (if (!(((rd_T42 x0 x5).f0) == ((rd_T42 x1 x5).f0)) || (!(((rd_T42 x0 x5).f1) == ((rd_T42 x1 x5).f1)) || ((!(((rd_T42 x0 x5).f2.f0) == ((rd_T42 x1 x5).f2.f0)) || (!(((rd_T42 x0 x5).f2.f1) == ((rd_T42 x1 x5).f2.f1)))) || (!(((rd_T42 x0 x5).f3) == ((rd_T42 x1 x5).f3)) || (!(((rd_T42 x0 x5).f4) == ((rd_T42 x1 x5).f4))))))) = true then (some false) else (plenumref42_Same.l0 k x0 x1 (wrap64 (x5 + 1)))) else (none)) else (none)) else (some true)
def plenumref42_Same.f (k : Nat) (l0 : List (S42)) (l1 : List (S42)) : Option (Bool) := if (l0.length : Int) = (l1.length : Int) then (plenumref42_Same.l0 k l0 l1 0) else (some false)
theorem plenumref42_Same.mono_l : ∀ k, (∀ y0 y1 y2, LeO (plenumref42_Same.l0 k y0 y1 y2) (plenumref42_Same.l0 (k + 1) y0 y1 y2))
 | 0 => fun _ _ _ r h => by simp [plenumref42_Same.l0] at h
 | k + 1 => by
  have ih0 := plenumref42_Same.mono_l k
  ·intro y0 y1 y2
   unfold plenumref42_Same.l0
   repeat' first
   | (with_reducible exact ih0 _ _ _)
   | (with_reducible exact LeO.refl _)
   | (with_reducible exact LeO.none _)
   | (with_reducible refine LeO.ite ?_ ?_)
   | (with_reducible refine LeO.bind ?_ (fun _ => ?_))
   | exact ih0 _ _ _
   | exact LeO.none _
   | refine LeO.ite ?_ ?_
   | refine LeO.bind ?_ (fun _ => ?_)
theorem plenumref42_Same.mono : ∀ a0 a1 k, LeO (plenumref42_Same.f k a0 a1) (plenumref42_Same.f (k + 1) a0 a1) := by
 intro a0 a1 k
 have ih0 := plenumref42_Same.mono_l k
 unfold plenumref42_Same.f
 repeat' first
   | (with_reducible exact ih0 _ _ _)
   | (with_reducible exact LeO.refl _)
   | (with_reducible exact LeO.none _)
   | (with_reducible refine LeO.ite ?_ ?_)
   | (with_reducible refine LeO.bind ?_ (fun _ => ?_))
   | exact ih0 _ _ _
   | exact LeO.none _
   | refine LeO.ite ?_ ?_
   | refine LeO.bind ?_ (fun _ => ?_)
set_option maxHeartbeats 8000000 in
set_option maxRecDepth 100000 in
theorem plenumref42_Same.calls (k : Nat) (A0 : Option Addr) (c0 : Nat) (l0 : List (S42)) (A1 : Option Addr) (c1 : Nat) (l1 : List (S42)) (r : Bool) (w : World) (hr0 : Kd.C k42 w A0 l0.length l0) (hc0 : l0.length ≤ c0) (hr1 : Kd.C k42 w A1 l1.length l1) (hc1 : l1.length ≤ c1) (h : plenumref42_Same.f k l0 l1 = some r) :
  Calls Try.prog 19 #[.slice A0 l0.length c0, .slice A1 l1.length c1] w fun e w' => e = .returned (.bool r) ∧ Drawn0 w w' := by
 have hu42 := Try.underlying42
 have HR0 := Aside0.mk hr0
 have HC0 := Aside0.mk hc0
 clear hr0 hc0
 have HR1 := Aside0.mk hr1
 have HC1 := Aside0.mk hc1
 clear hr1 hc1
 have H : (if (l0.length : Int) = (l1.length : Int) then (plenumref42_Same.l0 k l0 l1 0) else (some false)) = some r := h
 clear h
 by_cases c3 : (l0.length : Int) = (l1.length : Int)
 ·rw [if_pos c3] at H
  have c3b0 : ((l0.length : Int) == (l1.length : Int)) = true := beq_iff_eq.mpr c3
  have c3b1 : ((l0.length : Int) != (l1.length : Int)) = false := bne_eq_false_iff_eq.mpr c3
  have c3b2 : (l0.length == l1.length) = true := by first | simpa using c3 | (simp at c3 ⊢; omega)
  clear c3
  have H' := Aside0.mk H
  clear H
  go_enter Try.func19, Try.ntmps19
  go_wp2
  repeat (go_quiet (fail); try go_wp2)
  go_loopg [5] k (fun kq v5 w' => ∃ (x5_1 : Int), v5 = .int .i64 x5_1 ∧ Aside0 (plenumref42_Same.l0 kq l0 l1 x5_1 = some r) ∧ Aside0 (kq ≤ k) ∧ Drawn0 w w')
  case atStart => exact ⟨(0), (by first | rfl | (simp; done) | (simp [*]; done)), H', ⟨Nat.le_refl _⟩, by repeat (first | exact Drawn0.refl _ | apply Drawn0.step)⟩
  case round =>
   clear H'
   try clear c1
   try clear p2
   try clear c3
   try clear c3b0
   try clear c3b1
   try clear c3b2
   obtain ⟨x5_1, rfl, HA, HK1, ⟨m1, rfl⟩⟩ := hrel
   cases gk with
   | zero => exact absurd HA.out (by simp [plenumref42_Same.l0])
   | succ k1 =>
    have H := HA.out
    clear HA
    simp only [plenumref42_Same.l0] at H
    by_cases c4 : x5_1 < (l0.length : Int)
    ·rw [if_pos c4] at H
     have c4b0 : decide (x5_1 < (l0.length : Int)) = true := decide_eq_true c4
     clear c4
     by_cases c5 : 0 ≤ x5_1
     ·rw [if_pos c5] at H
      have c5b0 : decide (0 ≤ x5_1) = true := decide_eq_true c5
      clear c5
      by_cases c6 : x5_1 < (l1.length : Int)
      ·rw [if_pos c6] at H
       have c6b0 : decide (x5_1 < (l1.length : Int)) = true := decide_eq_true c6
       clear c6
       by_cases c7 : (!(((rd_T42 l0 x5_1).f0) == ((rd_T42 l1 x5_1).f0)) || (!(((rd_T42 l0 x5_1).f1) == ((rd_T42 l1 x5_1).f1)) || ((!(((rd_T42 l0 x5_1).f2.f0) == ((rd_T42 l1 x5_1).f2.f0)) || (!(((rd_T42 l0 x5_1).f2.f1) == ((rd_T42 l1 x5_1).f2.f1)))) || (!(((rd_T42 l0 x5_1).f3) == ((rd_T42 l1 x5_1).f3)) || (!(((rd_T42 l0 x5_1).f4) == ((rd_T42 l1 x5_1).f4))))))) = true
       ·rw [if_pos c7] at H
        have c7b0 : (!(((rd_T42 l0 x5_1).f0) == ((rd_T42 l1 x5_1).f0)) || (!(((rd_T42 l0 x5_1).f1) == ((rd_T42 l1 x5_1).f1)) || ((!(((rd_T42 l0 x5_1).f2.f0) == ((rd_T42 l1 x5_1).f2.f0)) || (!(((rd_T42 l0 x5_1).f2.f1) == ((rd_T42 l1 x5_1).f2.f1)))) || (!(((rd_T42 l0 x5_1).f3) == ((rd_T42 l1 x5_1).f3)) || (!(((rd_T42 l0 x5_1).f4) == ((rd_T42 l1 x5_1).f4))))))) = true := c7
        clear c7
        obtain rfl := Option.some.inj H
        have p268 : 0 ≤ (x5_1 : Int) := of_decide_eq_true (by first | (with_reducible assumption) | assumption)
        have q268 : x5_1 < (l0.length : Int) := of_decide_eq_true (by first | (with_reducible assumption) | assumption)
        obtain ⟨ad268, e268, hx268_0, hx268_1, hx268_2, hx268_3, hx268_4, hx268_5⟩ := at_T42 HR0.out x5_1 p268 q268
        cases e268
        replace p268 := eq_true p268
        replace q268 := eq_true q268
        have p269 : 0 ≤ (x5_1 : Int) := of_decide_eq_true (by first | (with_reducible assumption) | assumption)
        have q269 : x5_1 < (l1.length : Int) := of_decide_eq_true (by first | (with_reducible assumption) | assumption)
        obtain ⟨ad269, e269, hx269_0, hx269_1, hx269_2, hx269_3, hx269_4, hx269_5⟩ := at_T42 HR1.out x5_1 p269 q269
        cases e269
        replace p269 := eq_true p269
        replace q269 := eq_true q269
        go_wp2
        repeat (go_quiet (fail); try go_wp2)
        go_ret
        exact ⟨by first | rfl | (simp; done) | (simp [*]; done), by repeat (first | exact Drawn0.refl _ | apply Drawn0.step)⟩
       ·rw [if_neg c7] at H
        have c7b0 : (!(((rd_T42 l0 x5_1).f0) == ((rd_T42 l1 x5_1).f0)) || (!(((rd_T42 l0 x5_1).f1) == ((rd_T42 l1 x5_1).f1)) || ((!(((rd_T42 l0 x5_1).f2.f0) == ((rd_T42 l1 x5_1).f2.f0)) || (!(((rd_T42 l0 x5_1).f2.f1) == ((rd_T42 l1 x5_1).f2.f1)))) || (!(((rd_T42 l0 x5_1).f3) == ((rd_T42 l1 x5_1).f3)) || (!(((rd_T42 l0 x5_1).f4) == ((rd_T42 l1 x5_1).f4))))))) = false := by simpa using c7
        clear c7
        have H' := Aside0.mk H
        clear H
        have p268 : 0 ≤ (x5_1 : Int) := of_decide_eq_true (by first | (with_reducible assumption) | assumption)
        have q268 : x5_1 < (l0.length : Int) := of_decide_eq_true (by first | (with_reducible assumption) | assumption)
        obtain ⟨ad268, e268, hx268_0, hx268_1, hx268_2, hx268_3, hx268_4, hx268_5⟩ := at_T42 HR0.out x5_1 p268 q268
        cases e268
        replace p268 := eq_true p268
        replace q268 := eq_true q268
        have p269 : 0 ≤ (x5_1 : Int) := of_decide_eq_true (by first | (with_reducible assumption) | assumption)
        have q269 : x5_1 < (l1.length : Int) := of_decide_eq_true (by first | (with_reducible assumption) | assumption)
        obtain ⟨ad269, e269, hx269_0, hx269_1, hx269_2, hx269_3, hx269_4, hx269_5⟩ := at_T42 HR1.out x5_1 p269 q269
        cases e269
        replace p269 := eq_true p269
        replace q269 := eq_true q269
        go_wp2
        repeat (go_quiet (fail); try go_wp2)
        go_roundg k1
        case measure => have := HK1.out; omega
        case rel => exact ⟨(wrap64 (x5_1 + 1)), (by first | rfl | (simp; done) | (simp [*]; done)), H', ⟨by have := HK1.out; omega⟩, by repeat (first | exact Drawn0.refl _ | apply Drawn0.step)⟩
      ·rw [if_neg c6] at H
       exact absurd H (by simp)
     ·rw [if_neg c5] at H
      exact absurd H (by simp)
    ·rw [if_neg c4] at H
     have c4b0 : decide (x5_1 < (l0.length : Int)) = false := decide_eq_false c4
     clear c4
     obtain rfl := Option.some.inj H
     go_wp2
     repeat (go_quiet (fail); try go_wp2)
     go_ret
     exact ⟨by first | rfl | (simp; done) | (simp [*]; done), by repeat (first | exact Drawn0.refl _ | apply Drawn0.step)⟩
 ·rw [if_neg c3] at H
  have c3b0 : ((l0.length : Int) == (l1.length : Int)) = false := beq_eq_false_iff_ne.mpr c3
  have c3b1 : ((l0.length : Int) != (l1.length : Int)) = true := bne_iff_ne.mpr c3
  have c3b2 : (l0.length == l1.length) = false := by first | simpa using c3 | (simp at c3 ⊢; omega)
  obtain rfl := Option.some.inj H
  go_enter Try.func19, Try.ntmps19
  go_wp2
  repeat (go_quiet (fail); try go_wp2)
  go_ret
  exact ⟨by first | rfl | (simp; done) | (simp [*]; done), by repeat (first | exact Drawn0.refl _ | apply Drawn0.step)⟩

end Go.Proofs.Yteclemahimldeaa.Q
