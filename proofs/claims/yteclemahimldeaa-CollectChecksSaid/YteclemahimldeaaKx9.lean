-- Written by pp.py (a program of this session, over the kit's print.py) out of the translation. Not trusted: Lean checks it.
import Derived.Test.YteclemahimldeaaKx0
import Derived.Test.YteclemahimldeaaKx1
import Derived.Test.YteclemahimldeaaKx7
import Derived.Test.YteclemahimldeaaKx8
namespace Go.Proofs.Yteclemahimldeaa.K
open Go.RowKit Go.Proofs.YteclemahimldeaaW.PrintWords Go.Proofs.YteclemahimldeaaW.PrintLast Go.Proofs.YteclemahimldeaaW.PrintMore
attribute [local go_sem] max2_int min2_int max_two min_two max_three min_three max_four min_four   -- for this text's walks alone
attribute [local go_sem] pp_mod256 pp_mod256_w
set_option linter.unusedVariables false
set_option linter.unusedSimpArgs false

attribute [local go_sem high] eqA40
/-! ### plenumref42_Check: function 25 -/
mutual
def plenumref42_Check.l0 : Nat → List (S42) → Int → Option (Int)
 | 0, _, _ => none
 | k + 1, x0, x3 => if x3 < (x0.length : Int) then (if 0 ≤ x3 then ((plenumref42_in.f ((rd_T42 x0 x3).f0) 1 1000000000).bind fun t186 => (if t186 = true then ((plenumref42_in.f ((rd_T42 x0 x3).f4) 0 ((rd_T42 x0 x3).f0)).bind fun t187 => (if t187 = true then ((plenumref42_in.f ((rd_T42 x0 x3).f1) 0 6311433599).bind fun t188 => (if t188 = true then (plenumref42_Check.l0 k x0 (wrap64 (x3 + 1))) else (some 6))) else (some 6))) else (some 6))) else (none)) else (plenumref42_Check.l1 k x0 0)
def plenumref42_Check.l1 : Nat → List (S42) → Int → Option (Int)
 | 0, _, _ => none
 | k + 1, x0, x5 => if x5 < (x0.length : Int) then (if 0 ≤ x5 then (if ((rd_T42 x0 x5).f4) > 0 then (if ((rd_T42 x0 x5).f1) = 0 then (if (!(((rd_T42 x0 x5).f2.f0) == 0) || (!(((rd_T42 x0 x5).f2.f1) == 0))) = true then (some 1) else (if ((rd_T42 x0 x5).f3) = 0 then (if x5 > 0 then (if 0 ≤ (wrap64 (x5 - 1)) then (if (wrap64 (x5 - 1)) < (x0.length : Int) then (if ((rd_T42 x0 (wrap64 (x5 - 1))).f4) > 0 then (some 1) else (plenumref42_Check.l1 k x0 (wrap64 (x5 + 1)))) else (none)) else (none)) else (plenumref42_Check.l1 k x0 (wrap64 (x5 + 1)))) else (some 1))) else (some 1)) else (plenumref42_Check.l1 k x0 (wrap64 (x5 + 1)))) else (none)) else (plenumref42_Check.l2 k x0 1)
def plenumref42_Check.l2 : Nat → List (S42) → Int → Option (Int)
 | 0, _, _ => none
 | k + 1, x0, x7 => if x7 < (x0.length : Int) then (if 0 ≤ x7 then ((plenumref42_First.f ((rd_T42 x0 x7).f0) ((rd_T42 x0 x7).f1) ((rd_T42 x0 x7).f2.f0) ((rd_T42 x0 x7).f2.f1) ((rd_T42 x0 x7).f3) ((rd_T42 x0 x7).f4)).bind fun t193 => (if 0 ≤ (wrap64 (x7 - 1)) then (if (wrap64 (x7 - 1)) < (x0.length : Int) then (if t193 = (wrap64 (((rd_T42 x0 (wrap64 (x7 - 1))).f0) + 1)) then (plenumref42_Check.l2 k x0 (wrap64 (x7 + 1))) else (some 10)) else (none)) else (none))) else (none)) else ((plenumref42_Rising.f k x0).bind fun t195 => (if t195 = true then (some 0) else (some 15)))
end
def plenumref42_Check.f (k : Nat) (l0 : List (S42)) : Option (Int) := plenumref42_Check.l0 k l0 0
theorem plenumref42_Check.mono_l : ∀ k, (∀ y0 y1, LeO (plenumref42_Check.l0 k y0 y1) (plenumref42_Check.l0 (k + 1) y0 y1)) ∧ (∀ y0 y1, LeO (plenumref42_Check.l1 k y0 y1) (plenumref42_Check.l1 (k + 1) y0 y1)) ∧ (∀ y0 y1, LeO (plenumref42_Check.l2 k y0 y1) (plenumref42_Check.l2 (k + 1) y0 y1))
 | 0 => ⟨fun _ _ r h => by simp [plenumref42_Check.l0] at h, fun _ _ r h => by simp [plenumref42_Check.l1] at h, fun _ _ r h => by simp [plenumref42_Check.l2] at h⟩
 | k + 1 => by
  obtain ⟨ih0, ih1, ih2⟩ := plenumref42_Check.mono_l k
  refine ⟨?_, ?_, ?_⟩
  ·intro y0 y1
   unfold plenumref42_Check.l0
   repeat' first
   | (with_reducible exact ih0 _ _)
   | (with_reducible exact ih1 _ _)
   | (with_reducible exact ih2 _ _)
   | (with_reducible exact plenumref42_Rising.mono _ _)
   | (with_reducible exact LeO.refl _)
   | (with_reducible exact LeO.none _)
   | (with_reducible refine LeO.ite ?_ ?_)
   | (with_reducible refine LeO.bind ?_ (fun _ => ?_))
   | exact ih0 _ _
   | exact ih1 _ _
   | exact ih2 _ _
   | exact plenumref42_Rising.mono _ _
   | exact LeO.none _
   | refine LeO.ite ?_ ?_
   | refine LeO.bind ?_ (fun _ => ?_)
  ·intro y0 y1
   unfold plenumref42_Check.l1
   repeat' first
   | (with_reducible exact ih0 _ _)
   | (with_reducible exact ih1 _ _)
   | (with_reducible exact ih2 _ _)
   | (with_reducible exact plenumref42_Rising.mono _ _)
   | (with_reducible exact LeO.refl _)
   | (with_reducible exact LeO.none _)
   | (with_reducible refine LeO.ite ?_ ?_)
   | (with_reducible refine LeO.bind ?_ (fun _ => ?_))
   | exact ih0 _ _
   | exact ih1 _ _
   | exact ih2 _ _
   | exact plenumref42_Rising.mono _ _
   | exact LeO.none _
   | refine LeO.ite ?_ ?_
   | refine LeO.bind ?_ (fun _ => ?_)
  ·intro y0 y1
   unfold plenumref42_Check.l2
   repeat' first
   | (with_reducible exact ih0 _ _)
   | (with_reducible exact ih1 _ _)
   | (with_reducible exact ih2 _ _)
   | (with_reducible exact plenumref42_Rising.mono _ _)
   | (with_reducible exact LeO.refl _)
   | (with_reducible exact LeO.none _)
   | (with_reducible refine LeO.ite ?_ ?_)
   | (with_reducible refine LeO.bind ?_ (fun _ => ?_))
   | exact ih0 _ _
   | exact ih1 _ _
   | exact ih2 _ _
   | exact plenumref42_Rising.mono _ _
   | exact LeO.none _
   | refine LeO.ite ?_ ?_
   | refine LeO.bind ?_ (fun _ => ?_)
theorem plenumref42_Check.mono : ∀ a0 k, LeO (plenumref42_Check.f k a0) (plenumref42_Check.f (k + 1) a0) := by
 intro a0 k
 obtain ⟨ih0, ih1, ih2⟩ := plenumref42_Check.mono_l k
 unfold plenumref42_Check.f
 repeat' first
   | (with_reducible exact ih0 _ _)
   | (with_reducible exact ih1 _ _)
   | (with_reducible exact ih2 _ _)
   | (with_reducible exact plenumref42_Rising.mono _ _)
   | (with_reducible exact LeO.refl _)
   | (with_reducible exact LeO.none _)
   | (with_reducible refine LeO.ite ?_ ?_)
   | (with_reducible refine LeO.bind ?_ (fun _ => ?_))
   | exact ih0 _ _
   | exact ih1 _ _
   | exact ih2 _ _
   | exact plenumref42_Rising.mono _ _
   | exact LeO.none _
   | refine LeO.ite ?_ ?_
   | refine LeO.bind ?_ (fun _ => ?_)
def plenumref42_Check.T16 : Bool × List (List Nat × List Nat) := (true, [([], []), ([], []), ([0, 1], [0, 1]), ([2], [2]), ([3], [3]), ([], []), ([], []), ([6], [6]), ([5, 7], [5, 7]), ([8], [8]), ([9], [9]), ([10], [10]), ([4, 11], [4, 11])])
def plenumref42_Check.B16 : List Nat := [0, 0, 3, 7, 15, 0, 0, 64, 224, 480, 992, 2016, 4095]
theorem plenumref42_Check.tab16 : rtab .any (opsOf Try.f25 16) = plenumref42_Check.T16 := by kernel_rfl
theorem plenumref42_Check.bits16 : waitsOk plenumref42_Check.T16.2 plenumref42_Check.B16 = true := by kernel_rfl
set_option maxHeartbeats 8000000 in
set_option maxRecDepth 100000 in
theorem plenumref42_Check.calls (k : Nat) (A0 : Option Addr) (c0 : Nat) (l0 : List (S42)) (r : Int) (w : World) (hr0 : Kd.C k42 w A0 l0.length l0) (hc0 : l0.length ≤ c0) (h : plenumref42_Check.f k l0 = some r) :
  Calls Try.prog 25 #[.slice A0 l0.length c0] w fun e w' => e = .returned (.int .i64 r) ∧ Below w.heap.size w w' := by
 have hu42 := Try.underlying42
 have hu40 := Try.underlying40
 have HR0 := Aside0.mk hr0
 have HC0 := Aside0.mk hc0
 clear hr0 hc0
 have HB := Aside0.mk (Below.refl w.heap.size w)
 have H : (plenumref42_Check.l0 k l0 0) = some r := h
 clear h
 have H' := Aside0.mk H
 clear H
 go_enter Try.func25, Try.ntmps25
 go_wp2
 go_loopg [3] k (fun kq v3 w' => ∃ (x3_1 : Int), v3 = .int .i64 x3_1 ∧ Aside0 (plenumref42_Check.l0 kq l0 x3_1 = some r) ∧ Aside0 (kq ≤ k) ∧ Aside0 (Below w.heap.size w w'))
 case atStart => exact ⟨(0), (by first | rfl | (simp; done) | (simp [*]; done)), H', ⟨Nat.le_refl _⟩, ⟨by repeat (first | (with_reducible first | exact HB.out | apply below_alloc | apply pw_below_drewN | apply below_drew1) | exact HB.out)⟩⟩
 case round =>
  clear H'
  obtain ⟨x3_1, rfl, HA, HK1, HB⟩ := hrel
  cases gk with
  | zero => exact absurd HA.out (by simp [plenumref42_Check.l0])
  | succ k1 =>
   have H := HA.out
   clear HA
   simp only [plenumref42_Check.l0] at H
   by_cases c2 : x3_1 < (l0.length : Int)
   ·rw [if_pos c2] at H
    have c2b0 : decide (x3_1 < (l0.length : Int)) = true := decide_eq_true c2
    clear c2
    by_cases c3 : 0 ≤ x3_1
    ·rw [if_pos c3] at H
     have c3b0 : decide (0 ≤ x3_1) = true := decide_eq_true c3
     clear c3
     replace H := Option.bind_eq_some_iff.mp H
     obtain ⟨t186, A40, H⟩ := H
     replace H : (if t186 = true then ((plenumref42_in.f ((rd_T42 l0 x3_1).f4) 0 ((rd_T42 l0 x3_1).f0)).bind fun t187 => (if t187 = true then ((plenumref42_in.f ((rd_T42 l0 x3_1).f1) 0 6311433599).bind fun t188 => (if t188 = true then (plenumref42_Check.l0 k1 l0 (wrap64 (x3_1 + 1))) else (some 6))) else (some 6))) else (some 6)) = some r := H
     have A4 := Aside0.mk A40
     clear A40
     by_cases c5 : t186 = true
     ·subst c5
      have H1 : ((plenumref42_in.f ((rd_T42 l0 x3_1).f4) 0 ((rd_T42 l0 x3_1).f0)).bind fun t187 => (if t187 = true then ((plenumref42_in.f ((rd_T42 l0 x3_1).f1) 0 6311433599).bind fun t188 => (if t188 = true then (plenumref42_Check.l0 k1 l0 (wrap64 (x3_1 + 1))) else (some 6))) else (some 6))) = some r := by rw [if_pos rfl] at H; exact H
      clear H
      have H := H1
      clear H1
      replace H := Option.bind_eq_some_iff.mp H
      obtain ⟨t187, A60, H⟩ := H
      replace H : (if t187 = true then ((plenumref42_in.f ((rd_T42 l0 x3_1).f1) 0 6311433599).bind fun t188 => (if t188 = true then (plenumref42_Check.l0 k1 l0 (wrap64 (x3_1 + 1))) else (some 6))) else (some 6)) = some r := H
      have A6 := Aside0.mk A60
      clear A60
      by_cases c7 : t187 = true
      ·subst c7
       have H1 : ((plenumref42_in.f ((rd_T42 l0 x3_1).f1) 0 6311433599).bind fun t188 => (if t188 = true then (plenumref42_Check.l0 k1 l0 (wrap64 (x3_1 + 1))) else (some 6))) = some r := by rw [if_pos rfl] at H; exact H
       clear H
       have H := H1
       clear H1
       replace H := Option.bind_eq_some_iff.mp H
       obtain ⟨t188, A80, H⟩ := H
       replace H : (if t188 = true then (plenumref42_Check.l0 k1 l0 (wrap64 (x3_1 + 1))) else (some 6)) = some r := H
       have A8 := Aside0.mk A80
       clear A80
       by_cases c9 : t188 = true
       ·subst c9
        have H1 : (plenumref42_Check.l0 k1 l0 (wrap64 (x3_1 + 1))) = some r := by rw [if_pos rfl] at H; exact H
        clear H
        have H := H1
        clear H1
        have H' := Aside0.mk H
        clear H
        have p184 : 0 ≤ (x3_1 : Int) := of_decide_eq_true (by first | (with_reducible assumption) | assumption)
        have q184 : x3_1 < (l0.length : Int) := of_decide_eq_true (by first | (with_reducible assumption) | assumption)
        obtain ⟨ad184, e184, hx184_0, hx184_1, hx184_2, hx184_3, hx184_4, hx184_5⟩ := at_T42 HR0.out x3_1 p184 q184
        cases e184
        replace hx184_0 := (HB.out.cell (World.block_lt_of_cell? w _ hx184_0)).trans hx184_0
        replace hx184_1 := (HB.out.cell (World.block_lt_of_cell? w _ hx184_1)).trans hx184_1
        replace hx184_2 := (HB.out.cell (World.block_lt_of_cell? w _ hx184_2)).trans hx184_2
        replace hx184_3 := (HB.out.cell (World.block_lt_of_cell? w _ hx184_3)).trans hx184_3
        replace hx184_4 := (HB.out.cell (World.block_lt_of_cell? w _ hx184_4)).trans hx184_4
        replace hx184_5 := (HB.out.cell (World.block_lt_of_cell? w _ hx184_5)).trans hx184_5
        replace p184 := eq_true p184
        replace q184 := eq_true q184
        go_wp2_with (first | ((with_reducible refine gate_dst (N := 4) rfl ?_); refine box_event ?hg (N := 4) ?hd (cs := #[.int .i64 0, .int .i64 0, .int .i64 0, .int .i64 0, .int .i64 0, .int .i64 0]) (t := 42) ?hr ?_; (case hd => rfl); (case hg => rfl); (case hr => first | (go_simp; done) | (go_simp; rfl)); intro gb185 hg w10 hbox hb; have n0_ := Aside0.mk (below_step (by repeat (first | (with_reducible first | exact HB.out | apply below_alloc | apply pw_below_drewN | apply below_drew1) | exact HB.out)) hb); have n1_ := Aside0.mk (hbox); have n2_ := Aside0.mk ((by rw [hg]; exact (below_size (by repeat (first | (with_reducible first | exact HB.out | apply below_alloc | apply pw_below_drewN | apply below_drew1) | exact HB.out))) : w.heap.size ≤ gb185)); have n3_ := Aside0.mk ((by rw [hg]; exact (below_size (by repeat (first | (with_reducible first | exact HB.out | apply below_alloc | apply pw_below_drewN | apply below_drew1) | exact HB.out))) : w.heap.size ≤ gb185)); clear HB; have HB := n0_; have BK185 := n1_; have GW185 := n2_; have GE185 := n3_; clear n0_ n1_ n2_ n3_; clear hb hbox hg; have hcz11_0 : w10.cell? ⟨gb185, 0, none⟩ = some (.int .i64 0) := (blk_cell BK185.out 0).trans rfl; have hcz11_1 : w10.cell? ⟨gb185, 1, none⟩ = some (.int .i64 0) := (blk_cell BK185.out 1).trans rfl; have hcz11_2 : w10.cell? ⟨gb185, 2, none⟩ = some (.int .i64 0) := (blk_cell BK185.out 2).trans rfl; have hcz11_3 : w10.cell? ⟨gb185, 3, none⟩ = some (.int .i64 0) := (blk_cell BK185.out 3).trans rfl; have hcz11_4 : w10.cell? ⟨gb185, 4, none⟩ = some (.int .i64 0) := (blk_cell BK185.out 4).trans rfl; have hcz11_5 : w10.cell? ⟨gb185, 5, none⟩ = some (.int .i64 0) := (blk_cell BK185.out 5).trans rfl; have hfz11_0 := blk_frozen BK185.out 0; have hfz11_1 := blk_frozen BK185.out 1; have hfz11_2 := blk_frozen BK185.out 2; have hfz11_3 := blk_frozen BK185.out 3; have hfz11_4 := blk_frozen BK185.out 4; have hfz11_5 := blk_frozen BK185.out 5) | ((with_reducible refine gate_callee (f := 40) rfl ?_); refine goesL_ (some 20) rfl rfl Try.func40 (by kernel_rfl) rfl #[.int .i64 ((rd_T42 l0 x3_1).f0), .int .i64 1, .int .i64 1000000000] rfl (by (try simp only [List.map_toArray, List.map_cons, List.map_nil]); first | done | rfl | (simp only [List.length_drop, List.length_take]; rfl)) ?_; (with_reducible refine (plenumref42_in.calls ((rd_T42 l0 x3_1).f0) 1 1000000000 true _ A4.out).mono ?_); rintro e w' ⟨rfl, ⟨nd, rfl⟩⟩; refine ⟨_, rfl, ?_⟩) | (go_at_call 40; (with_reducible refine (plenumref42_in.calls ((rd_T42 l0 x3_1).f4) 0 ((rd_T42 l0 x3_1).f0) true _ A6.out).mono ?_); rintro e w' ⟨rfl, ⟨nd, rfl⟩⟩) | (go_at_call 40; (with_reducible refine (plenumref42_in.calls ((rd_T42 l0 x3_1).f1) 0 6311433599 true _ A8.out).mono ?_); rintro e w' ⟨rfl, ⟨nd, rfl⟩⟩))
        go_roundg k1
        case measure => have := HK1.out; omega
        case rel => exact ⟨(wrap64 (x3_1 + 1)), (by first | rfl | (simp; done) | (simp [*]; done)), H', ⟨by have := HK1.out; omega⟩, ⟨by repeat (first | (with_reducible first | exact HB.out | apply below_alloc | apply pw_below_drewN | apply below_drew1 | refine below_set ?_ GE185.out) | exact HB.out)⟩⟩
       ·replace c9 := Bool.eq_false_iff.mpr c9
        subst c9
        have H1 : (some 6) = some r := by rw [if_neg (show ¬ (false = true) by decide)] at H; exact H
        clear H
        have H := H1
        clear H1
        obtain rfl := Option.some.inj H
        have p184 : 0 ≤ (x3_1 : Int) := of_decide_eq_true (by first | (with_reducible assumption) | assumption)
        have q184 : x3_1 < (l0.length : Int) := of_decide_eq_true (by first | (with_reducible assumption) | assumption)
        obtain ⟨ad184, e184, hx184_0, hx184_1, hx184_2, hx184_3, hx184_4, hx184_5⟩ := at_T42 HR0.out x3_1 p184 q184
        cases e184
        replace hx184_0 := (HB.out.cell (World.block_lt_of_cell? w _ hx184_0)).trans hx184_0
        replace hx184_1 := (HB.out.cell (World.block_lt_of_cell? w _ hx184_1)).trans hx184_1
        replace hx184_2 := (HB.out.cell (World.block_lt_of_cell? w _ hx184_2)).trans hx184_2
        replace hx184_3 := (HB.out.cell (World.block_lt_of_cell? w _ hx184_3)).trans hx184_3
        replace hx184_4 := (HB.out.cell (World.block_lt_of_cell? w _ hx184_4)).trans hx184_4
        replace hx184_5 := (HB.out.cell (World.block_lt_of_cell? w _ hx184_5)).trans hx184_5
        replace p184 := eq_true p184
        replace q184 := eq_true q184
        go_wp2_with (first | ((with_reducible refine gate_dst (N := 4) rfl ?_); refine box_event ?hg (N := 4) ?hd (cs := #[.int .i64 0, .int .i64 0, .int .i64 0, .int .i64 0, .int .i64 0, .int .i64 0]) (t := 42) ?hr ?_; (case hd => rfl); (case hg => rfl); (case hr => first | (go_simp; done) | (go_simp; rfl)); intro gb185 hg w12 hbox hb; have n0_ := Aside0.mk (below_step (by repeat (first | (with_reducible first | exact HB.out | apply below_alloc | apply pw_below_drewN | apply below_drew1) | exact HB.out)) hb); have n1_ := Aside0.mk (hbox); have n2_ := Aside0.mk ((by rw [hg]; exact (below_size (by repeat (first | (with_reducible first | exact HB.out | apply below_alloc | apply pw_below_drewN | apply below_drew1) | exact HB.out))) : w.heap.size ≤ gb185)); have n3_ := Aside0.mk ((by rw [hg]; exact (below_size (by repeat (first | (with_reducible first | exact HB.out | apply below_alloc | apply pw_below_drewN | apply below_drew1) | exact HB.out))) : w.heap.size ≤ gb185)); clear HB; have HB := n0_; have BK185 := n1_; have GW185 := n2_; have GE185 := n3_; clear n0_ n1_ n2_ n3_; clear hb hbox hg; have hcz13_0 : w12.cell? ⟨gb185, 0, none⟩ = some (.int .i64 0) := (blk_cell BK185.out 0).trans rfl; have hcz13_1 : w12.cell? ⟨gb185, 1, none⟩ = some (.int .i64 0) := (blk_cell BK185.out 1).trans rfl; have hcz13_2 : w12.cell? ⟨gb185, 2, none⟩ = some (.int .i64 0) := (blk_cell BK185.out 2).trans rfl; have hcz13_3 : w12.cell? ⟨gb185, 3, none⟩ = some (.int .i64 0) := (blk_cell BK185.out 3).trans rfl; have hcz13_4 : w12.cell? ⟨gb185, 4, none⟩ = some (.int .i64 0) := (blk_cell BK185.out 4).trans rfl; have hcz13_5 : w12.cell? ⟨gb185, 5, none⟩ = some (.int .i64 0) := (blk_cell BK185.out 5).trans rfl; have hfz13_0 := blk_frozen BK185.out 0; have hfz13_1 := blk_frozen BK185.out 1; have hfz13_2 := blk_frozen BK185.out 2; have hfz13_3 := blk_frozen BK185.out 3; have hfz13_4 := blk_frozen BK185.out 4; have hfz13_5 := blk_frozen BK185.out 5) | ((with_reducible refine gate_callee (f := 40) rfl ?_); refine goesL_ (some 20) rfl rfl Try.func40 (by kernel_rfl) rfl #[.int .i64 ((rd_T42 l0 x3_1).f0), .int .i64 1, .int .i64 1000000000] rfl (by (try simp only [List.map_toArray, List.map_cons, List.map_nil]); first | done | rfl | (simp only [List.length_drop, List.length_take]; rfl)) ?_; (with_reducible refine (plenumref42_in.calls ((rd_T42 l0 x3_1).f0) 1 1000000000 true _ A4.out).mono ?_); rintro e w' ⟨rfl, ⟨nd, rfl⟩⟩; refine ⟨_, rfl, ?_⟩) | (go_at_call 40; (with_reducible refine (plenumref42_in.calls ((rd_T42 l0 x3_1).f4) 0 ((rd_T42 l0 x3_1).f0) true _ A6.out).mono ?_); rintro e w' ⟨rfl, ⟨nd, rfl⟩⟩) | (go_at_call 40; (with_reducible refine (plenumref42_in.calls ((rd_T42 l0 x3_1).f1) 0 6311433599 false _ A8.out).mono ?_); rintro e w' ⟨rfl, ⟨nd, rfl⟩⟩))
        go_ret
        exact ⟨by first | rfl | (simp [errW_none, errW_some] <;> rfl) | (simp [*, errW_none, errW_some] <;> rfl), by repeat (first | (with_reducible first | exact HB.out | apply below_alloc | apply pw_below_drewN | apply below_drew1 | refine below_set ?_ GE185.out) | exact HB.out)⟩
      ·replace c7 := Bool.eq_false_iff.mpr c7
       subst c7
       have H1 : (some 6) = some r := by rw [if_neg (show ¬ (false = true) by decide)] at H; exact H
       clear H
       have H := H1
       clear H1
       obtain rfl := Option.some.inj H
       have p184 : 0 ≤ (x3_1 : Int) := of_decide_eq_true (by first | (with_reducible assumption) | assumption)
       have q184 : x3_1 < (l0.length : Int) := of_decide_eq_true (by first | (with_reducible assumption) | assumption)
       obtain ⟨ad184, e184, hx184_0, hx184_1, hx184_2, hx184_3, hx184_4, hx184_5⟩ := at_T42 HR0.out x3_1 p184 q184
       cases e184
       replace hx184_0 := (HB.out.cell (World.block_lt_of_cell? w _ hx184_0)).trans hx184_0
       replace hx184_1 := (HB.out.cell (World.block_lt_of_cell? w _ hx184_1)).trans hx184_1
       replace hx184_2 := (HB.out.cell (World.block_lt_of_cell? w _ hx184_2)).trans hx184_2
       replace hx184_3 := (HB.out.cell (World.block_lt_of_cell? w _ hx184_3)).trans hx184_3
       replace hx184_4 := (HB.out.cell (World.block_lt_of_cell? w _ hx184_4)).trans hx184_4
       replace hx184_5 := (HB.out.cell (World.block_lt_of_cell? w _ hx184_5)).trans hx184_5
       replace p184 := eq_true p184
       replace q184 := eq_true q184
       go_wp2_with (first | ((with_reducible refine gate_dst (N := 4) rfl ?_); refine box_event ?hg (N := 4) ?hd (cs := #[.int .i64 0, .int .i64 0, .int .i64 0, .int .i64 0, .int .i64 0, .int .i64 0]) (t := 42) ?hr ?_; (case hd => rfl); (case hg => rfl); (case hr => first | (go_simp; done) | (go_simp; rfl)); intro gb185 hg w14 hbox hb; have n0_ := Aside0.mk (below_step (by repeat (first | (with_reducible first | exact HB.out | apply below_alloc | apply pw_below_drewN | apply below_drew1) | exact HB.out)) hb); have n1_ := Aside0.mk (hbox); have n2_ := Aside0.mk ((by rw [hg]; exact (below_size (by repeat (first | (with_reducible first | exact HB.out | apply below_alloc | apply pw_below_drewN | apply below_drew1) | exact HB.out))) : w.heap.size ≤ gb185)); have n3_ := Aside0.mk ((by rw [hg]; exact (below_size (by repeat (first | (with_reducible first | exact HB.out | apply below_alloc | apply pw_below_drewN | apply below_drew1) | exact HB.out))) : w.heap.size ≤ gb185)); clear HB; have HB := n0_; have BK185 := n1_; have GW185 := n2_; have GE185 := n3_; clear n0_ n1_ n2_ n3_; clear hb hbox hg; have hcz15_0 : w14.cell? ⟨gb185, 0, none⟩ = some (.int .i64 0) := (blk_cell BK185.out 0).trans rfl; have hcz15_1 : w14.cell? ⟨gb185, 1, none⟩ = some (.int .i64 0) := (blk_cell BK185.out 1).trans rfl; have hcz15_2 : w14.cell? ⟨gb185, 2, none⟩ = some (.int .i64 0) := (blk_cell BK185.out 2).trans rfl; have hcz15_3 : w14.cell? ⟨gb185, 3, none⟩ = some (.int .i64 0) := (blk_cell BK185.out 3).trans rfl; have hcz15_4 : w14.cell? ⟨gb185, 4, none⟩ = some (.int .i64 0) := (blk_cell BK185.out 4).trans rfl; have hcz15_5 : w14.cell? ⟨gb185, 5, none⟩ = some (.int .i64 0) := (blk_cell BK185.out 5).trans rfl; have hfz15_0 := blk_frozen BK185.out 0; have hfz15_1 := blk_frozen BK185.out 1; have hfz15_2 := blk_frozen BK185.out 2; have hfz15_3 := blk_frozen BK185.out 3; have hfz15_4 := blk_frozen BK185.out 4; have hfz15_5 := blk_frozen BK185.out 5) | ((with_reducible refine gate_callee (f := 40) rfl ?_); refine goesL_ (some 20) rfl rfl Try.func40 (by kernel_rfl) rfl #[.int .i64 ((rd_T42 l0 x3_1).f0), .int .i64 1, .int .i64 1000000000] rfl (by (try simp only [List.map_toArray, List.map_cons, List.map_nil]); first | done | rfl | (simp only [List.length_drop, List.length_take]; rfl)) ?_; (with_reducible refine (plenumref42_in.calls ((rd_T42 l0 x3_1).f0) 1 1000000000 true _ A4.out).mono ?_); rintro e w' ⟨rfl, ⟨nd, rfl⟩⟩; refine ⟨_, rfl, ?_⟩) | (go_at_call 40; (with_reducible refine (plenumref42_in.calls ((rd_T42 l0 x3_1).f4) 0 ((rd_T42 l0 x3_1).f0) false _ A6.out).mono ?_); rintro e w' ⟨rfl, ⟨nd, rfl⟩⟩))
       go_ret
       exact ⟨by first | rfl | (simp [errW_none, errW_some] <;> rfl) | (simp [*, errW_none, errW_some] <;> rfl), by repeat (first | (with_reducible first | exact HB.out | apply below_alloc | apply pw_below_drewN | apply below_drew1 | refine below_set ?_ GE185.out) | exact HB.out)⟩
     ·replace c5 := Bool.eq_false_iff.mpr c5
      subst c5
      have H1 : (some 6) = some r := by rw [if_neg (show ¬ (false = true) by decide)] at H; exact H
      clear H
      have H := H1
      clear H1
      obtain rfl := Option.some.inj H
      have p184 : 0 ≤ (x3_1 : Int) := of_decide_eq_true (by first | (with_reducible assumption) | assumption)
      have q184 : x3_1 < (l0.length : Int) := of_decide_eq_true (by first | (with_reducible assumption) | assumption)
      obtain ⟨ad184, e184, hx184_0, hx184_1, hx184_2, hx184_3, hx184_4, hx184_5⟩ := at_T42 HR0.out x3_1 p184 q184
      cases e184
      replace hx184_0 := (HB.out.cell (World.block_lt_of_cell? w _ hx184_0)).trans hx184_0
      replace hx184_1 := (HB.out.cell (World.block_lt_of_cell? w _ hx184_1)).trans hx184_1
      replace hx184_2 := (HB.out.cell (World.block_lt_of_cell? w _ hx184_2)).trans hx184_2
      replace hx184_3 := (HB.out.cell (World.block_lt_of_cell? w _ hx184_3)).trans hx184_3
      replace hx184_4 := (HB.out.cell (World.block_lt_of_cell? w _ hx184_4)).trans hx184_4
      replace hx184_5 := (HB.out.cell (World.block_lt_of_cell? w _ hx184_5)).trans hx184_5
      replace p184 := eq_true p184
      replace q184 := eq_true q184
      go_wp2_with (first | ((with_reducible refine gate_dst (N := 4) rfl ?_); refine box_event ?hg (N := 4) ?hd (cs := #[.int .i64 0, .int .i64 0, .int .i64 0, .int .i64 0, .int .i64 0, .int .i64 0]) (t := 42) ?hr ?_; (case hd => rfl); (case hg => rfl); (case hr => first | (go_simp; done) | (go_simp; rfl)); intro gb185 hg w16 hbox hb; have n0_ := Aside0.mk (below_step (by repeat (first | (with_reducible first | exact HB.out | apply below_alloc | apply pw_below_drewN | apply below_drew1) | exact HB.out)) hb); have n1_ := Aside0.mk (hbox); have n2_ := Aside0.mk ((by rw [hg]; exact (below_size (by repeat (first | (with_reducible first | exact HB.out | apply below_alloc | apply pw_below_drewN | apply below_drew1) | exact HB.out))) : w.heap.size ≤ gb185)); have n3_ := Aside0.mk ((by rw [hg]; exact (below_size (by repeat (first | (with_reducible first | exact HB.out | apply below_alloc | apply pw_below_drewN | apply below_drew1) | exact HB.out))) : w.heap.size ≤ gb185)); clear HB; have HB := n0_; have BK185 := n1_; have GW185 := n2_; have GE185 := n3_; clear n0_ n1_ n2_ n3_; clear hb hbox hg; have hcz17_0 : w16.cell? ⟨gb185, 0, none⟩ = some (.int .i64 0) := (blk_cell BK185.out 0).trans rfl; have hcz17_1 : w16.cell? ⟨gb185, 1, none⟩ = some (.int .i64 0) := (blk_cell BK185.out 1).trans rfl; have hcz17_2 : w16.cell? ⟨gb185, 2, none⟩ = some (.int .i64 0) := (blk_cell BK185.out 2).trans rfl; have hcz17_3 : w16.cell? ⟨gb185, 3, none⟩ = some (.int .i64 0) := (blk_cell BK185.out 3).trans rfl; have hcz17_4 : w16.cell? ⟨gb185, 4, none⟩ = some (.int .i64 0) := (blk_cell BK185.out 4).trans rfl; have hcz17_5 : w16.cell? ⟨gb185, 5, none⟩ = some (.int .i64 0) := (blk_cell BK185.out 5).trans rfl; have hfz17_0 := blk_frozen BK185.out 0; have hfz17_1 := blk_frozen BK185.out 1; have hfz17_2 := blk_frozen BK185.out 2; have hfz17_3 := blk_frozen BK185.out 3; have hfz17_4 := blk_frozen BK185.out 4; have hfz17_5 := blk_frozen BK185.out 5) | ((with_reducible refine gate_callee (f := 40) rfl ?_); refine goesL_ (some 20) rfl rfl Try.func40 (by kernel_rfl) rfl #[.int .i64 ((rd_T42 l0 x3_1).f0), .int .i64 1, .int .i64 1000000000] rfl (by (try simp only [List.map_toArray, List.map_cons, List.map_nil]); first | done | rfl | (simp only [List.length_drop, List.length_take]; rfl)) ?_; (with_reducible refine (plenumref42_in.calls ((rd_T42 l0 x3_1).f0) 1 1000000000 false _ A4.out).mono ?_); rintro e w' ⟨rfl, ⟨nd, rfl⟩⟩; refine ⟨_, rfl, ?_⟩))
      go_ret
      exact ⟨by first | rfl | (simp [errW_none, errW_some] <;> rfl) | (simp [*, errW_none, errW_some] <;> rfl), by repeat (first | (with_reducible first | exact HB.out | apply below_alloc | apply pw_below_drewN | apply below_drew1 | refine below_set ?_ GE185.out) | exact HB.out)⟩
    ·rw [if_neg c3] at H
     exact absurd H (by simp)
   ·rw [if_neg c2] at H
    have c2b0 : decide (x3_1 < (l0.length : Int)) = false := decide_eq_false c2
    clear c2
    have H' := Aside0.mk H
    clear H
    go_wp2
    go_loopg [5] k1 (fun kq v5 w' => ∃ (x5_2 : Int), v5 = .int .i64 x5_2 ∧ Aside0 (plenumref42_Check.l1 kq l0 x5_2 = some r) ∧ Aside0 (kq ≤ k1) ∧ Aside0 (Below w.heap.size w w'))
    case atStart => exact ⟨(0), (by first | rfl | (simp; done) | (simp [*]; done)), H', ⟨Nat.le_refl _⟩, ⟨by repeat (first | (with_reducible first | exact HB.out | apply below_alloc | apply pw_below_drewN | apply below_drew1) | exact HB.out)⟩⟩
    case round =>
     clear H'
     try clear p1
     try clear q1
     try clear hx1
     try clear c2
     try clear c2b0
     try clear p2
     try clear c3
     try clear c3b0
     try clear c4
     try clear c5
     try clear p6
     try clear c7
     try clear c9
     try clear hcz11_0
     try clear hcz11_1
     try clear hcz11_2
     try clear hcz11_3
     try clear hcz11_4
     try clear hcz11_5
     try clear hcz13_0
     try clear hcz13_1
     try clear hcz13_2
     try clear hcz13_3
     try clear hcz13_4
     try clear hcz13_5
     try clear hcz15_0
     try clear hcz15_1
     try clear hcz15_2
     try clear hcz15_3
     try clear hcz15_4
     try clear hcz15_5
     try clear hcz17_0
     try clear hcz17_1
     try clear hcz17_2
     try clear hcz17_3
     try clear hcz17_4
     try clear hcz17_5
     try clear hfz11_0
     try clear hfz11_1
     try clear hfz11_2
     try clear hfz11_3
     try clear hfz11_4
     try clear hfz11_5
     try clear hfz13_0
     try clear hfz13_1
     try clear hfz13_2
     try clear hfz13_3
     try clear hfz13_4
     try clear hfz13_5
     try clear hfz15_0
     try clear hfz15_1
     try clear hfz15_2
     try clear hfz15_3
     try clear hfz15_4
     try clear hfz15_5
     try clear hfz17_0
     try clear hfz17_1
     try clear hfz17_2
     try clear hfz17_3
     try clear hfz17_4
     try clear hfz17_5
     try clear hx184_0
     try clear hx184_1
     try clear hx184_2
     try clear hx184_3
     try clear hx184_4
     try clear hx184_5
     try clear p184
     try clear q184
     obtain ⟨x5_2, rfl, HA, HK2, HB⟩ := hrel
     cases gk with
     | zero => exact absurd HA.out (by simp [plenumref42_Check.l1])
     | succ k2 =>
      have H := HA.out
      clear HA
      simp only [plenumref42_Check.l1] at H
      by_cases c18 : x5_2 < (l0.length : Int)
      ·rw [if_pos c18] at H
       have c18b0 : decide (x5_2 < (l0.length : Int)) = true := decide_eq_true c18
       clear c18
       by_cases c19 : 0 ≤ x5_2
       ·rw [if_pos c19] at H
        have c19b0 : decide (0 ≤ x5_2) = true := decide_eq_true c19
        clear c19
        by_cases c20 : ((rd_T42 l0 x5_2).f4) > 0
        ·rw [if_pos c20] at H
         have c20b0 : decide (0 < ((rd_T42 l0 x5_2).f4)) = true := decide_eq_true c20
         clear c20
         by_cases c21 : ((rd_T42 l0 x5_2).f1) = 0
         ·rw [if_pos c21] at H
          have c21b0 : (((rd_T42 l0 x5_2).f1) == 0) = true := beq_iff_eq.mpr c21
          have c21b1 : (((rd_T42 l0 x5_2).f1) != 0) = false := bne_eq_false_iff_eq.mpr c21
          clear c21
          by_cases c22 : (!(((rd_T42 l0 x5_2).f2.f0) == 0) || (!(((rd_T42 l0 x5_2).f2.f1) == 0))) = true
          ·rw [if_pos c22] at H
           have c22b0 : (!(((rd_T42 l0 x5_2).f2.f0) == 0) || (!(((rd_T42 l0 x5_2).f2.f1) == 0))) = true := c22
           clear c22
           obtain rfl := Option.some.inj H
           have p189 : 0 ≤ (x5_2 : Int) := of_decide_eq_true (by first | (with_reducible assumption) | assumption)
           have q189 : x5_2 < (l0.length : Int) := of_decide_eq_true (by first | (with_reducible assumption) | assumption)
           obtain ⟨ad189, e189, hx189_0, hx189_1, hx189_2, hx189_3, hx189_4, hx189_5⟩ := at_T42 HR0.out x5_2 p189 q189
           cases e189
           replace hx189_0 := (HB.out.cell (World.block_lt_of_cell? w _ hx189_0)).trans hx189_0
           replace hx189_1 := (HB.out.cell (World.block_lt_of_cell? w _ hx189_1)).trans hx189_1
           replace hx189_2 := (HB.out.cell (World.block_lt_of_cell? w _ hx189_2)).trans hx189_2
           replace hx189_3 := (HB.out.cell (World.block_lt_of_cell? w _ hx189_3)).trans hx189_3
           replace hx189_4 := (HB.out.cell (World.block_lt_of_cell? w _ hx189_4)).trans hx189_4
           replace hx189_5 := (HB.out.cell (World.block_lt_of_cell? w _ hx189_5)).trans hx189_5
           replace p189 := eq_true p189
           replace q189 := eq_true q189
           go_wp2_with (first | ((with_reducible refine gate_dst (N := 6) rfl ?_); refine box_event ?hg (N := 6) ?hd (cs := #[.int .i64 0, .int .i64 0, .int .i64 0, .int .i64 0, .int .i64 0, .int .i64 0]) (t := 42) ?hr ?_; (case hd => rfl); (case hg => rfl); (case hr => first | (go_simp; done) | (go_simp; rfl)); intro gb190 hg w23 hbox hb; have n0_ := Aside0.mk (below_step (by repeat (first | (with_reducible first | exact HB.out | apply below_alloc | apply pw_below_drewN | apply below_drew1) | exact HB.out)) hb); have n1_ := Aside0.mk (hbox); have n2_ := Aside0.mk ((by rw [hg]; exact (below_size (by repeat (first | (with_reducible first | exact HB.out | apply below_alloc | apply pw_below_drewN | apply below_drew1) | exact HB.out))) : w.heap.size ≤ gb190)); have n3_ := Aside0.mk ((by rw [hg]; exact (below_size (by repeat (first | (with_reducible first | exact HB.out | apply below_alloc | apply pw_below_drewN | apply below_drew1) | exact HB.out))) : w.heap.size ≤ gb190)); clear HB; have HB := n0_; have BK190 := n1_; have GW190 := n2_; have GE190 := n3_; clear n0_ n1_ n2_ n3_; clear hb hbox hg; have hcz24_0 : w23.cell? ⟨gb190, 0, none⟩ = some (.int .i64 0) := (blk_cell BK190.out 0).trans rfl; have hcz24_1 : w23.cell? ⟨gb190, 1, none⟩ = some (.int .i64 0) := (blk_cell BK190.out 1).trans rfl; have hcz24_2 : w23.cell? ⟨gb190, 2, none⟩ = some (.int .i64 0) := (blk_cell BK190.out 2).trans rfl; have hcz24_3 : w23.cell? ⟨gb190, 3, none⟩ = some (.int .i64 0) := (blk_cell BK190.out 3).trans rfl; have hcz24_4 : w23.cell? ⟨gb190, 4, none⟩ = some (.int .i64 0) := (blk_cell BK190.out 4).trans rfl; have hcz24_5 : w23.cell? ⟨gb190, 5, none⟩ = some (.int .i64 0) := (blk_cell BK190.out 5).trans rfl; have hfz24_0 := blk_frozen BK190.out 0; have hfz24_1 := blk_frozen BK190.out 1; have hfz24_2 := blk_frozen BK190.out 2; have hfz24_3 := blk_frozen BK190.out 3; have hfz24_4 := blk_frozen BK190.out 4; have hfz24_5 := blk_frozen BK190.out 5))
           go_ret
           exact ⟨by first | rfl | (simp [errW_none, errW_some] <;> rfl) | (simp [*, errW_none, errW_some] <;> rfl), by repeat (first | (with_reducible first | exact HB.out | apply below_alloc | apply pw_below_drewN | apply below_drew1 | refine below_set ?_ GE190.out) | exact HB.out)⟩
          ·rw [if_neg c22] at H
           have c22b0 : (!(((rd_T42 l0 x5_2).f2.f0) == 0) || (!(((rd_T42 l0 x5_2).f2.f1) == 0))) = false := by simpa using c22
           clear c22
           by_cases c25 : ((rd_T42 l0 x5_2).f3) = 0
           ·rw [if_pos c25] at H
            have c25b0 : (((rd_T42 l0 x5_2).f3) == 0) = true := beq_iff_eq.mpr c25
            have c25b1 : (((rd_T42 l0 x5_2).f3) != 0) = false := bne_eq_false_iff_eq.mpr c25
            clear c25
            by_cases c26 : x5_2 > 0
            ·rw [if_pos c26] at H
             have c26b0 : decide (0 < x5_2) = true := decide_eq_true c26
             clear c26
             obtain ⟨ji27, hji27⟩ : ∃ j_ : Int, (wrap64 (x5_2 - 1)) = j_ := ⟨_, rfl⟩
             replace H : (if 0 ≤ (ji27) then (if (ji27) < (l0.length : Int) then (if ((rd_T42 l0 (ji27)).f4) > 0 then (some 1) else (plenumref42_Check.l1 k2 l0 (wrap64 (x5_2 + 1)))) else (none)) else (none)) = some r := by first | (rw [hji27] at H; exact H) | (simp only [hji27] at H ⊢; exact H)
             have hji27w : (IntKind.i64.wrap (x5_2 - 1)) = ji27 := (i64_w _).trans hji27
             by_cases c28 : 0 ≤ (ji27)
             ·rw [if_pos c28] at H
              have c28b0 : decide (0 ≤ (ji27)) = true := decide_eq_true c28
              clear c28
              by_cases c29 : (ji27) < (l0.length : Int)
              ·rw [if_pos c29] at H
               have c29b0 : decide ((ji27) < (l0.length : Int)) = true := decide_eq_true c29
               clear c29
               by_cases c30 : ((rd_T42 l0 (ji27)).f4) > 0
               ·rw [if_pos c30] at H
                have c30b0 : decide (0 < ((rd_T42 l0 (ji27)).f4)) = true := decide_eq_true c30
                clear c30
                obtain rfl := Option.some.inj H
                have p189 : 0 ≤ (x5_2 : Int) := of_decide_eq_true (by first | (with_reducible assumption) | assumption)
                have q189 : x5_2 < (l0.length : Int) := of_decide_eq_true (by first | (with_reducible assumption) | assumption)
                obtain ⟨ad189, e189, hx189_0, hx189_1, hx189_2, hx189_3, hx189_4, hx189_5⟩ := at_T42 HR0.out x5_2 p189 q189
                cases e189
                replace hx189_0 := (HB.out.cell (World.block_lt_of_cell? w _ hx189_0)).trans hx189_0
                replace hx189_1 := (HB.out.cell (World.block_lt_of_cell? w _ hx189_1)).trans hx189_1
                replace hx189_2 := (HB.out.cell (World.block_lt_of_cell? w _ hx189_2)).trans hx189_2
                replace hx189_3 := (HB.out.cell (World.block_lt_of_cell? w _ hx189_3)).trans hx189_3
                replace hx189_4 := (HB.out.cell (World.block_lt_of_cell? w _ hx189_4)).trans hx189_4
                replace hx189_5 := (HB.out.cell (World.block_lt_of_cell? w _ hx189_5)).trans hx189_5
                replace p189 := eq_true p189
                replace q189 := eq_true q189
                go_wp2_with (first | ((with_reducible refine gate_dst (N := 6) rfl ?_); refine box_event ?hg (N := 6) ?hd (cs := #[.int .i64 0, .int .i64 0, .int .i64 0, .int .i64 0, .int .i64 0, .int .i64 0]) (t := 42) ?hr ?_; (case hd => rfl); (case hg => rfl); (case hr => first | (go_simp; done) | (go_simp; rfl)); intro gb190 hg w31 hbox hb; have n0_ := Aside0.mk (below_step (by repeat (first | (with_reducible first | exact HB.out | apply below_alloc | apply pw_below_drewN | apply below_drew1) | exact HB.out)) hb); have n1_ := Aside0.mk (hbox); have n2_ := Aside0.mk ((by rw [hg]; exact (below_size (by repeat (first | (with_reducible first | exact HB.out | apply below_alloc | apply pw_below_drewN | apply below_drew1) | exact HB.out))) : w.heap.size ≤ gb190)); have n3_ := Aside0.mk ((by rw [hg]; exact (below_size (by repeat (first | (with_reducible first | exact HB.out | apply below_alloc | apply pw_below_drewN | apply below_drew1) | exact HB.out))) : w.heap.size ≤ gb190)); clear HB; have HB := n0_; have BK190 := n1_; have GW190 := n2_; have GE190 := n3_; clear n0_ n1_ n2_ n3_; clear hb hbox hg; have hcz32_0 : w31.cell? ⟨gb190, 0, none⟩ = some (.int .i64 0) := (blk_cell BK190.out 0).trans rfl; have hcz32_1 : w31.cell? ⟨gb190, 1, none⟩ = some (.int .i64 0) := (blk_cell BK190.out 1).trans rfl; have hcz32_2 : w31.cell? ⟨gb190, 2, none⟩ = some (.int .i64 0) := (blk_cell BK190.out 2).trans rfl; have hcz32_3 : w31.cell? ⟨gb190, 3, none⟩ = some (.int .i64 0) := (blk_cell BK190.out 3).trans rfl; have hcz32_4 : w31.cell? ⟨gb190, 4, none⟩ = some (.int .i64 0) := (blk_cell BK190.out 4).trans rfl; have hcz32_5 : w31.cell? ⟨gb190, 5, none⟩ = some (.int .i64 0) := (blk_cell BK190.out 5).trans rfl; have hfz32_0 := blk_frozen BK190.out 0; have hfz32_1 := blk_frozen BK190.out 1; have hfz32_2 := blk_frozen BK190.out 2; have hfz32_3 := blk_frozen BK190.out 3; have hfz32_4 := blk_frozen BK190.out 4; have hfz32_5 := blk_frozen BK190.out 5; have p191 : 0 ≤ ((ji27) : Int) := of_decide_eq_true (by first | (with_reducible assumption) | assumption); have q191 : (ji27) < (l0.length : Int) := of_decide_eq_true (by first | (with_reducible assumption) | assumption); obtain ⟨ad191, e191, hx191_0, hx191_1, hx191_2, hx191_3, hx191_4, hx191_5⟩ := at_T42 HR0.out (ji27) p191 q191; obtain rfl : ad189 = ad191 := (by injection e191); have hn191_0 : ad189.block ≠ gb190 := Nat.ne_of_lt (Nat.lt_of_lt_of_le (by have := World.block_lt_of_cell? _ _ hx191_0; first | rwa [add_block] at this | exact this) GW190.out); have hn191_1 : ad189.block ≠ gb190 := Nat.ne_of_lt (Nat.lt_of_lt_of_le (by have := World.block_lt_of_cell? _ _ hx191_0; first | rwa [add_block] at this | exact this) GW190.out); have hn191_2 : ad189.block ≠ gb190 := Nat.ne_of_lt (Nat.lt_of_lt_of_le (by have := World.block_lt_of_cell? _ _ hx191_0; first | rwa [add_block] at this | exact this) GW190.out); have hn191_3 : ad189.block ≠ gb190 := Nat.ne_of_lt (Nat.lt_of_lt_of_le (by have := World.block_lt_of_cell? _ _ hx191_0; first | rwa [add_block] at this | exact this) GW190.out); have hn191_4 : ad189.block ≠ gb190 := Nat.ne_of_lt (Nat.lt_of_lt_of_le (by have := World.block_lt_of_cell? _ _ hx191_0; first | rwa [add_block] at this | exact this) GW190.out); have hn191_5 : ad189.block ≠ gb190 := Nat.ne_of_lt (Nat.lt_of_lt_of_le (by have := World.block_lt_of_cell? _ _ hx191_0; first | rwa [add_block] at this | exact this) GW190.out); replace hx191_0 := (HB.out.cell (World.block_lt_of_cell? w _ hx191_0)).trans hx191_0; replace hx191_1 := (HB.out.cell (World.block_lt_of_cell? w _ hx191_1)).trans hx191_1; replace hx191_2 := (HB.out.cell (World.block_lt_of_cell? w _ hx191_2)).trans hx191_2; replace hx191_3 := (HB.out.cell (World.block_lt_of_cell? w _ hx191_3)).trans hx191_3; replace hx191_4 := (HB.out.cell (World.block_lt_of_cell? w _ hx191_4)).trans hx191_4; replace hx191_5 := (HB.out.cell (World.block_lt_of_cell? w _ hx191_5)).trans hx191_5; replace hx191_0 := (cell_far (p := ⟨gb190, 0, none⟩) (by first | (rw [add_block]; exact hn191_0) | (show (Addr.add _ _).block ≠ _; rw [add_block]; exact hn191_0) | exact hn191_0) (.int .i64 ((rd_T42 l0 x5_2).f0))).trans hx191_0; replace hx191_1 := (cell_far (p := ⟨gb190, 0, none⟩) (by first | (rw [add_block]; exact hn191_0) | (show (Addr.add _ _).block ≠ _; rw [add_block]; exact hn191_0) | exact hn191_0) (.int .i64 ((rd_T42 l0 x5_2).f0))).trans hx191_1; replace hx191_2 := (cell_far (p := ⟨gb190, 0, none⟩) (by first | (rw [add_block]; exact hn191_0) | (show (Addr.add _ _).block ≠ _; rw [add_block]; exact hn191_0) | exact hn191_0) (.int .i64 ((rd_T42 l0 x5_2).f0))).trans hx191_2; replace hx191_3 := (cell_far (p := ⟨gb190, 0, none⟩) (by first | (rw [add_block]; exact hn191_0) | (show (Addr.add _ _).block ≠ _; rw [add_block]; exact hn191_0) | exact hn191_0) (.int .i64 ((rd_T42 l0 x5_2).f0))).trans hx191_3; replace hx191_4 := (cell_far (p := ⟨gb190, 0, none⟩) (by first | (rw [add_block]; exact hn191_0) | (show (Addr.add _ _).block ≠ _; rw [add_block]; exact hn191_0) | exact hn191_0) (.int .i64 ((rd_T42 l0 x5_2).f0))).trans hx191_4; replace hx191_5 := (cell_far (p := ⟨gb190, 0, none⟩) (by first | (rw [add_block]; exact hn191_0) | (show (Addr.add _ _).block ≠ _; rw [add_block]; exact hn191_0) | exact hn191_0) (.int .i64 ((rd_T42 l0 x5_2).f0))).trans hx191_5; replace hx191_0 := (cell_far (p := ⟨gb190, 1, none⟩) (by first | (rw [add_block]; exact hn191_1) | (show (Addr.add _ _).block ≠ _; rw [add_block]; exact hn191_1) | exact hn191_1) (.int .i64 ((rd_T42 l0 x5_2).f1))).trans hx191_0; replace hx191_1 := (cell_far (p := ⟨gb190, 1, none⟩) (by first | (rw [add_block]; exact hn191_1) | (show (Addr.add _ _).block ≠ _; rw [add_block]; exact hn191_1) | exact hn191_1) (.int .i64 ((rd_T42 l0 x5_2).f1))).trans hx191_1; replace hx191_2 := (cell_far (p := ⟨gb190, 1, none⟩) (by first | (rw [add_block]; exact hn191_1) | (show (Addr.add _ _).block ≠ _; rw [add_block]; exact hn191_1) | exact hn191_1) (.int .i64 ((rd_T42 l0 x5_2).f1))).trans hx191_2; replace hx191_3 := (cell_far (p := ⟨gb190, 1, none⟩) (by first | (rw [add_block]; exact hn191_1) | (show (Addr.add _ _).block ≠ _; rw [add_block]; exact hn191_1) | exact hn191_1) (.int .i64 ((rd_T42 l0 x5_2).f1))).trans hx191_3; replace hx191_4 := (cell_far (p := ⟨gb190, 1, none⟩) (by first | (rw [add_block]; exact hn191_1) | (show (Addr.add _ _).block ≠ _; rw [add_block]; exact hn191_1) | exact hn191_1) (.int .i64 ((rd_T42 l0 x5_2).f1))).trans hx191_4; replace hx191_5 := (cell_far (p := ⟨gb190, 1, none⟩) (by first | (rw [add_block]; exact hn191_1) | (show (Addr.add _ _).block ≠ _; rw [add_block]; exact hn191_1) | exact hn191_1) (.int .i64 ((rd_T42 l0 x5_2).f1))).trans hx191_5; replace hx191_0 := (cell_far (p := ⟨gb190, 2, none⟩) (by first | (rw [add_block]; exact hn191_2) | (show (Addr.add _ _).block ≠ _; rw [add_block]; exact hn191_2) | exact hn191_2) (.int .i64 ((rd_T42 l0 x5_2).f2.f0))).trans hx191_0; replace hx191_1 := (cell_far (p := ⟨gb190, 2, none⟩) (by first | (rw [add_block]; exact hn191_2) | (show (Addr.add _ _).block ≠ _; rw [add_block]; exact hn191_2) | exact hn191_2) (.int .i64 ((rd_T42 l0 x5_2).f2.f0))).trans hx191_1; replace hx191_2 := (cell_far (p := ⟨gb190, 2, none⟩) (by first | (rw [add_block]; exact hn191_2) | (show (Addr.add _ _).block ≠ _; rw [add_block]; exact hn191_2) | exact hn191_2) (.int .i64 ((rd_T42 l0 x5_2).f2.f0))).trans hx191_2; replace hx191_3 := (cell_far (p := ⟨gb190, 2, none⟩) (by first | (rw [add_block]; exact hn191_2) | (show (Addr.add _ _).block ≠ _; rw [add_block]; exact hn191_2) | exact hn191_2) (.int .i64 ((rd_T42 l0 x5_2).f2.f0))).trans hx191_3; replace hx191_4 := (cell_far (p := ⟨gb190, 2, none⟩) (by first | (rw [add_block]; exact hn191_2) | (show (Addr.add _ _).block ≠ _; rw [add_block]; exact hn191_2) | exact hn191_2) (.int .i64 ((rd_T42 l0 x5_2).f2.f0))).trans hx191_4; replace hx191_5 := (cell_far (p := ⟨gb190, 2, none⟩) (by first | (rw [add_block]; exact hn191_2) | (show (Addr.add _ _).block ≠ _; rw [add_block]; exact hn191_2) | exact hn191_2) (.int .i64 ((rd_T42 l0 x5_2).f2.f0))).trans hx191_5; replace hx191_0 := (cell_far (p := ⟨gb190, 3, none⟩) (by first | (rw [add_block]; exact hn191_3) | (show (Addr.add _ _).block ≠ _; rw [add_block]; exact hn191_3) | exact hn191_3) (.int .i64 ((rd_T42 l0 x5_2).f2.f1))).trans hx191_0; replace hx191_1 := (cell_far (p := ⟨gb190, 3, none⟩) (by first | (rw [add_block]; exact hn191_3) | (show (Addr.add _ _).block ≠ _; rw [add_block]; exact hn191_3) | exact hn191_3) (.int .i64 ((rd_T42 l0 x5_2).f2.f1))).trans hx191_1; replace hx191_2 := (cell_far (p := ⟨gb190, 3, none⟩) (by first | (rw [add_block]; exact hn191_3) | (show (Addr.add _ _).block ≠ _; rw [add_block]; exact hn191_3) | exact hn191_3) (.int .i64 ((rd_T42 l0 x5_2).f2.f1))).trans hx191_2; replace hx191_3 := (cell_far (p := ⟨gb190, 3, none⟩) (by first | (rw [add_block]; exact hn191_3) | (show (Addr.add _ _).block ≠ _; rw [add_block]; exact hn191_3) | exact hn191_3) (.int .i64 ((rd_T42 l0 x5_2).f2.f1))).trans hx191_3; replace hx191_4 := (cell_far (p := ⟨gb190, 3, none⟩) (by first | (rw [add_block]; exact hn191_3) | (show (Addr.add _ _).block ≠ _; rw [add_block]; exact hn191_3) | exact hn191_3) (.int .i64 ((rd_T42 l0 x5_2).f2.f1))).trans hx191_4; replace hx191_5 := (cell_far (p := ⟨gb190, 3, none⟩) (by first | (rw [add_block]; exact hn191_3) | (show (Addr.add _ _).block ≠ _; rw [add_block]; exact hn191_3) | exact hn191_3) (.int .i64 ((rd_T42 l0 x5_2).f2.f1))).trans hx191_5; replace hx191_0 := (cell_far (p := ⟨gb190, 4, none⟩) (by first | (rw [add_block]; exact hn191_4) | (show (Addr.add _ _).block ≠ _; rw [add_block]; exact hn191_4) | exact hn191_4) (.int .i64 ((rd_T42 l0 x5_2).f3))).trans hx191_0; replace hx191_1 := (cell_far (p := ⟨gb190, 4, none⟩) (by first | (rw [add_block]; exact hn191_4) | (show (Addr.add _ _).block ≠ _; rw [add_block]; exact hn191_4) | exact hn191_4) (.int .i64 ((rd_T42 l0 x5_2).f3))).trans hx191_1; replace hx191_2 := (cell_far (p := ⟨gb190, 4, none⟩) (by first | (rw [add_block]; exact hn191_4) | (show (Addr.add _ _).block ≠ _; rw [add_block]; exact hn191_4) | exact hn191_4) (.int .i64 ((rd_T42 l0 x5_2).f3))).trans hx191_2; replace hx191_3 := (cell_far (p := ⟨gb190, 4, none⟩) (by first | (rw [add_block]; exact hn191_4) | (show (Addr.add _ _).block ≠ _; rw [add_block]; exact hn191_4) | exact hn191_4) (.int .i64 ((rd_T42 l0 x5_2).f3))).trans hx191_3; replace hx191_4 := (cell_far (p := ⟨gb190, 4, none⟩) (by first | (rw [add_block]; exact hn191_4) | (show (Addr.add _ _).block ≠ _; rw [add_block]; exact hn191_4) | exact hn191_4) (.int .i64 ((rd_T42 l0 x5_2).f3))).trans hx191_4; replace hx191_5 := (cell_far (p := ⟨gb190, 4, none⟩) (by first | (rw [add_block]; exact hn191_4) | (show (Addr.add _ _).block ≠ _; rw [add_block]; exact hn191_4) | exact hn191_4) (.int .i64 ((rd_T42 l0 x5_2).f3))).trans hx191_5; replace hx191_0 := (cell_far (p := ⟨gb190, 5, none⟩) (by first | (rw [add_block]; exact hn191_5) | (show (Addr.add _ _).block ≠ _; rw [add_block]; exact hn191_5) | exact hn191_5) (.int .i64 ((rd_T42 l0 x5_2).f4))).trans hx191_0; replace hx191_1 := (cell_far (p := ⟨gb190, 5, none⟩) (by first | (rw [add_block]; exact hn191_5) | (show (Addr.add _ _).block ≠ _; rw [add_block]; exact hn191_5) | exact hn191_5) (.int .i64 ((rd_T42 l0 x5_2).f4))).trans hx191_1; replace hx191_2 := (cell_far (p := ⟨gb190, 5, none⟩) (by first | (rw [add_block]; exact hn191_5) | (show (Addr.add _ _).block ≠ _; rw [add_block]; exact hn191_5) | exact hn191_5) (.int .i64 ((rd_T42 l0 x5_2).f4))).trans hx191_2; replace hx191_3 := (cell_far (p := ⟨gb190, 5, none⟩) (by first | (rw [add_block]; exact hn191_5) | (show (Addr.add _ _).block ≠ _; rw [add_block]; exact hn191_5) | exact hn191_5) (.int .i64 ((rd_T42 l0 x5_2).f4))).trans hx191_3; replace hx191_4 := (cell_far (p := ⟨gb190, 5, none⟩) (by first | (rw [add_block]; exact hn191_5) | (show (Addr.add _ _).block ≠ _; rw [add_block]; exact hn191_5) | exact hn191_5) (.int .i64 ((rd_T42 l0 x5_2).f4))).trans hx191_4; replace hx191_5 := (cell_far (p := ⟨gb190, 5, none⟩) (by first | (rw [add_block]; exact hn191_5) | (show (Addr.add _ _).block ≠ _; rw [add_block]; exact hn191_5) | exact hn191_5) (.int .i64 ((rd_T42 l0 x5_2).f4))).trans hx191_5; clear hn191_0; clear hn191_1; clear hn191_2; clear hn191_3; clear hn191_4; clear hn191_5; replace p191 := eq_true p191; replace q191 := eq_true q191))
                go_ret
                exact ⟨by first | rfl | (simp [errW_none, errW_some] <;> rfl) | (simp only [← hji27]; first | rfl | (simp [errW_none, errW_some] <;> rfl)) | (simp [*, errW_none, errW_some] <;> rfl), by repeat (first | (with_reducible first | exact HB.out | apply below_alloc | apply pw_below_drewN | apply below_drew1 | refine below_set ?_ GE190.out) | exact HB.out)⟩
               ·rw [if_neg c30] at H
                have c30b0 : decide (0 < ((rd_T42 l0 (ji27)).f4)) = false := decide_eq_false c30
                clear c30
                have H' := Aside0.mk H
                clear H
                have p189 : 0 ≤ (x5_2 : Int) := of_decide_eq_true (by first | (with_reducible assumption) | assumption)
                have q189 : x5_2 < (l0.length : Int) := of_decide_eq_true (by first | (with_reducible assumption) | assumption)
                obtain ⟨ad189, e189, hx189_0, hx189_1, hx189_2, hx189_3, hx189_4, hx189_5⟩ := at_T42 HR0.out x5_2 p189 q189
                cases e189
                replace hx189_0 := (HB.out.cell (World.block_lt_of_cell? w _ hx189_0)).trans hx189_0
                replace hx189_1 := (HB.out.cell (World.block_lt_of_cell? w _ hx189_1)).trans hx189_1
                replace hx189_2 := (HB.out.cell (World.block_lt_of_cell? w _ hx189_2)).trans hx189_2
                replace hx189_3 := (HB.out.cell (World.block_lt_of_cell? w _ hx189_3)).trans hx189_3
                replace hx189_4 := (HB.out.cell (World.block_lt_of_cell? w _ hx189_4)).trans hx189_4
                replace hx189_5 := (HB.out.cell (World.block_lt_of_cell? w _ hx189_5)).trans hx189_5
                replace p189 := eq_true p189
                replace q189 := eq_true q189
                go_wp2_with (first | ((with_reducible refine gate_dst (N := 6) rfl ?_); refine box_event ?hg (N := 6) ?hd (cs := #[.int .i64 0, .int .i64 0, .int .i64 0, .int .i64 0, .int .i64 0, .int .i64 0]) (t := 42) ?hr ?_; (case hd => rfl); (case hg => rfl); (case hr => first | (go_simp; done) | (go_simp; rfl)); intro gb190 hg w33 hbox hb; have n0_ := Aside0.mk (below_step (by repeat (first | (with_reducible first | exact HB.out | apply below_alloc | apply pw_below_drewN | apply below_drew1) | exact HB.out)) hb); have n1_ := Aside0.mk (hbox); have n2_ := Aside0.mk ((by rw [hg]; exact (below_size (by repeat (first | (with_reducible first | exact HB.out | apply below_alloc | apply pw_below_drewN | apply below_drew1) | exact HB.out))) : w.heap.size ≤ gb190)); have n3_ := Aside0.mk ((by rw [hg]; exact (below_size (by repeat (first | (with_reducible first | exact HB.out | apply below_alloc | apply pw_below_drewN | apply below_drew1) | exact HB.out))) : w.heap.size ≤ gb190)); clear HB; have HB := n0_; have BK190 := n1_; have GW190 := n2_; have GE190 := n3_; clear n0_ n1_ n2_ n3_; clear hb hbox hg; have hcz34_0 : w33.cell? ⟨gb190, 0, none⟩ = some (.int .i64 0) := (blk_cell BK190.out 0).trans rfl; have hcz34_1 : w33.cell? ⟨gb190, 1, none⟩ = some (.int .i64 0) := (blk_cell BK190.out 1).trans rfl; have hcz34_2 : w33.cell? ⟨gb190, 2, none⟩ = some (.int .i64 0) := (blk_cell BK190.out 2).trans rfl; have hcz34_3 : w33.cell? ⟨gb190, 3, none⟩ = some (.int .i64 0) := (blk_cell BK190.out 3).trans rfl; have hcz34_4 : w33.cell? ⟨gb190, 4, none⟩ = some (.int .i64 0) := (blk_cell BK190.out 4).trans rfl; have hcz34_5 : w33.cell? ⟨gb190, 5, none⟩ = some (.int .i64 0) := (blk_cell BK190.out 5).trans rfl; have hfz34_0 := blk_frozen BK190.out 0; have hfz34_1 := blk_frozen BK190.out 1; have hfz34_2 := blk_frozen BK190.out 2; have hfz34_3 := blk_frozen BK190.out 3; have hfz34_4 := blk_frozen BK190.out 4; have hfz34_5 := blk_frozen BK190.out 5; have p191 : 0 ≤ ((ji27) : Int) := of_decide_eq_true (by first | (with_reducible assumption) | assumption); have q191 : (ji27) < (l0.length : Int) := of_decide_eq_true (by first | (with_reducible assumption) | assumption); obtain ⟨ad191, e191, hx191_0, hx191_1, hx191_2, hx191_3, hx191_4, hx191_5⟩ := at_T42 HR0.out (ji27) p191 q191; obtain rfl : ad189 = ad191 := (by injection e191); have hn191_0 : ad189.block ≠ gb190 := Nat.ne_of_lt (Nat.lt_of_lt_of_le (by have := World.block_lt_of_cell? _ _ hx191_0; first | rwa [add_block] at this | exact this) GW190.out); have hn191_1 : ad189.block ≠ gb190 := Nat.ne_of_lt (Nat.lt_of_lt_of_le (by have := World.block_lt_of_cell? _ _ hx191_0; first | rwa [add_block] at this | exact this) GW190.out); have hn191_2 : ad189.block ≠ gb190 := Nat.ne_of_lt (Nat.lt_of_lt_of_le (by have := World.block_lt_of_cell? _ _ hx191_0; first | rwa [add_block] at this | exact this) GW190.out); have hn191_3 : ad189.block ≠ gb190 := Nat.ne_of_lt (Nat.lt_of_lt_of_le (by have := World.block_lt_of_cell? _ _ hx191_0; first | rwa [add_block] at this | exact this) GW190.out); have hn191_4 : ad189.block ≠ gb190 := Nat.ne_of_lt (Nat.lt_of_lt_of_le (by have := World.block_lt_of_cell? _ _ hx191_0; first | rwa [add_block] at this | exact this) GW190.out); have hn191_5 : ad189.block ≠ gb190 := Nat.ne_of_lt (Nat.lt_of_lt_of_le (by have := World.block_lt_of_cell? _ _ hx191_0; first | rwa [add_block] at this | exact this) GW190.out); replace hx191_0 := (HB.out.cell (World.block_lt_of_cell? w _ hx191_0)).trans hx191_0; replace hx191_1 := (HB.out.cell (World.block_lt_of_cell? w _ hx191_1)).trans hx191_1; replace hx191_2 := (HB.out.cell (World.block_lt_of_cell? w _ hx191_2)).trans hx191_2; replace hx191_3 := (HB.out.cell (World.block_lt_of_cell? w _ hx191_3)).trans hx191_3; replace hx191_4 := (HB.out.cell (World.block_lt_of_cell? w _ hx191_4)).trans hx191_4; replace hx191_5 := (HB.out.cell (World.block_lt_of_cell? w _ hx191_5)).trans hx191_5; replace hx191_0 := (cell_far (p := ⟨gb190, 0, none⟩) (by first | (rw [add_block]; exact hn191_0) | (show (Addr.add _ _).block ≠ _; rw [add_block]; exact hn191_0) | exact hn191_0) (.int .i64 ((rd_T42 l0 x5_2).f0))).trans hx191_0; replace hx191_1 := (cell_far (p := ⟨gb190, 0, none⟩) (by first | (rw [add_block]; exact hn191_0) | (show (Addr.add _ _).block ≠ _; rw [add_block]; exact hn191_0) | exact hn191_0) (.int .i64 ((rd_T42 l0 x5_2).f0))).trans hx191_1; replace hx191_2 := (cell_far (p := ⟨gb190, 0, none⟩) (by first | (rw [add_block]; exact hn191_0) | (show (Addr.add _ _).block ≠ _; rw [add_block]; exact hn191_0) | exact hn191_0) (.int .i64 ((rd_T42 l0 x5_2).f0))).trans hx191_2; replace hx191_3 := (cell_far (p := ⟨gb190, 0, none⟩) (by first | (rw [add_block]; exact hn191_0) | (show (Addr.add _ _).block ≠ _; rw [add_block]; exact hn191_0) | exact hn191_0) (.int .i64 ((rd_T42 l0 x5_2).f0))).trans hx191_3; replace hx191_4 := (cell_far (p := ⟨gb190, 0, none⟩) (by first | (rw [add_block]; exact hn191_0) | (show (Addr.add _ _).block ≠ _; rw [add_block]; exact hn191_0) | exact hn191_0) (.int .i64 ((rd_T42 l0 x5_2).f0))).trans hx191_4; replace hx191_5 := (cell_far (p := ⟨gb190, 0, none⟩) (by first | (rw [add_block]; exact hn191_0) | (show (Addr.add _ _).block ≠ _; rw [add_block]; exact hn191_0) | exact hn191_0) (.int .i64 ((rd_T42 l0 x5_2).f0))).trans hx191_5; replace hx191_0 := (cell_far (p := ⟨gb190, 1, none⟩) (by first | (rw [add_block]; exact hn191_1) | (show (Addr.add _ _).block ≠ _; rw [add_block]; exact hn191_1) | exact hn191_1) (.int .i64 ((rd_T42 l0 x5_2).f1))).trans hx191_0; replace hx191_1 := (cell_far (p := ⟨gb190, 1, none⟩) (by first | (rw [add_block]; exact hn191_1) | (show (Addr.add _ _).block ≠ _; rw [add_block]; exact hn191_1) | exact hn191_1) (.int .i64 ((rd_T42 l0 x5_2).f1))).trans hx191_1; replace hx191_2 := (cell_far (p := ⟨gb190, 1, none⟩) (by first | (rw [add_block]; exact hn191_1) | (show (Addr.add _ _).block ≠ _; rw [add_block]; exact hn191_1) | exact hn191_1) (.int .i64 ((rd_T42 l0 x5_2).f1))).trans hx191_2; replace hx191_3 := (cell_far (p := ⟨gb190, 1, none⟩) (by first | (rw [add_block]; exact hn191_1) | (show (Addr.add _ _).block ≠ _; rw [add_block]; exact hn191_1) | exact hn191_1) (.int .i64 ((rd_T42 l0 x5_2).f1))).trans hx191_3; replace hx191_4 := (cell_far (p := ⟨gb190, 1, none⟩) (by first | (rw [add_block]; exact hn191_1) | (show (Addr.add _ _).block ≠ _; rw [add_block]; exact hn191_1) | exact hn191_1) (.int .i64 ((rd_T42 l0 x5_2).f1))).trans hx191_4; replace hx191_5 := (cell_far (p := ⟨gb190, 1, none⟩) (by first | (rw [add_block]; exact hn191_1) | (show (Addr.add _ _).block ≠ _; rw [add_block]; exact hn191_1) | exact hn191_1) (.int .i64 ((rd_T42 l0 x5_2).f1))).trans hx191_5; replace hx191_0 := (cell_far (p := ⟨gb190, 2, none⟩) (by first | (rw [add_block]; exact hn191_2) | (show (Addr.add _ _).block ≠ _; rw [add_block]; exact hn191_2) | exact hn191_2) (.int .i64 ((rd_T42 l0 x5_2).f2.f0))).trans hx191_0; replace hx191_1 := (cell_far (p := ⟨gb190, 2, none⟩) (by first | (rw [add_block]; exact hn191_2) | (show (Addr.add _ _).block ≠ _; rw [add_block]; exact hn191_2) | exact hn191_2) (.int .i64 ((rd_T42 l0 x5_2).f2.f0))).trans hx191_1; replace hx191_2 := (cell_far (p := ⟨gb190, 2, none⟩) (by first | (rw [add_block]; exact hn191_2) | (show (Addr.add _ _).block ≠ _; rw [add_block]; exact hn191_2) | exact hn191_2) (.int .i64 ((rd_T42 l0 x5_2).f2.f0))).trans hx191_2; replace hx191_3 := (cell_far (p := ⟨gb190, 2, none⟩) (by first | (rw [add_block]; exact hn191_2) | (show (Addr.add _ _).block ≠ _; rw [add_block]; exact hn191_2) | exact hn191_2) (.int .i64 ((rd_T42 l0 x5_2).f2.f0))).trans hx191_3; replace hx191_4 := (cell_far (p := ⟨gb190, 2, none⟩) (by first | (rw [add_block]; exact hn191_2) | (show (Addr.add _ _).block ≠ _; rw [add_block]; exact hn191_2) | exact hn191_2) (.int .i64 ((rd_T42 l0 x5_2).f2.f0))).trans hx191_4; replace hx191_5 := (cell_far (p := ⟨gb190, 2, none⟩) (by first | (rw [add_block]; exact hn191_2) | (show (Addr.add _ _).block ≠ _; rw [add_block]; exact hn191_2) | exact hn191_2) (.int .i64 ((rd_T42 l0 x5_2).f2.f0))).trans hx191_5; replace hx191_0 := (cell_far (p := ⟨gb190, 3, none⟩) (by first | (rw [add_block]; exact hn191_3) | (show (Addr.add _ _).block ≠ _; rw [add_block]; exact hn191_3) | exact hn191_3) (.int .i64 ((rd_T42 l0 x5_2).f2.f1))).trans hx191_0; replace hx191_1 := (cell_far (p := ⟨gb190, 3, none⟩) (by first | (rw [add_block]; exact hn191_3) | (show (Addr.add _ _).block ≠ _; rw [add_block]; exact hn191_3) | exact hn191_3) (.int .i64 ((rd_T42 l0 x5_2).f2.f1))).trans hx191_1; replace hx191_2 := (cell_far (p := ⟨gb190, 3, none⟩) (by first | (rw [add_block]; exact hn191_3) | (show (Addr.add _ _).block ≠ _; rw [add_block]; exact hn191_3) | exact hn191_3) (.int .i64 ((rd_T42 l0 x5_2).f2.f1))).trans hx191_2; replace hx191_3 := (cell_far (p := ⟨gb190, 3, none⟩) (by first | (rw [add_block]; exact hn191_3) | (show (Addr.add _ _).block ≠ _; rw [add_block]; exact hn191_3) | exact hn191_3) (.int .i64 ((rd_T42 l0 x5_2).f2.f1))).trans hx191_3; replace hx191_4 := (cell_far (p := ⟨gb190, 3, none⟩) (by first | (rw [add_block]; exact hn191_3) | (show (Addr.add _ _).block ≠ _; rw [add_block]; exact hn191_3) | exact hn191_3) (.int .i64 ((rd_T42 l0 x5_2).f2.f1))).trans hx191_4; replace hx191_5 := (cell_far (p := ⟨gb190, 3, none⟩) (by first | (rw [add_block]; exact hn191_3) | (show (Addr.add _ _).block ≠ _; rw [add_block]; exact hn191_3) | exact hn191_3) (.int .i64 ((rd_T42 l0 x5_2).f2.f1))).trans hx191_5; replace hx191_0 := (cell_far (p := ⟨gb190, 4, none⟩) (by first | (rw [add_block]; exact hn191_4) | (show (Addr.add _ _).block ≠ _; rw [add_block]; exact hn191_4) | exact hn191_4) (.int .i64 ((rd_T42 l0 x5_2).f3))).trans hx191_0; replace hx191_1 := (cell_far (p := ⟨gb190, 4, none⟩) (by first | (rw [add_block]; exact hn191_4) | (show (Addr.add _ _).block ≠ _; rw [add_block]; exact hn191_4) | exact hn191_4) (.int .i64 ((rd_T42 l0 x5_2).f3))).trans hx191_1; replace hx191_2 := (cell_far (p := ⟨gb190, 4, none⟩) (by first | (rw [add_block]; exact hn191_4) | (show (Addr.add _ _).block ≠ _; rw [add_block]; exact hn191_4) | exact hn191_4) (.int .i64 ((rd_T42 l0 x5_2).f3))).trans hx191_2; replace hx191_3 := (cell_far (p := ⟨gb190, 4, none⟩) (by first | (rw [add_block]; exact hn191_4) | (show (Addr.add _ _).block ≠ _; rw [add_block]; exact hn191_4) | exact hn191_4) (.int .i64 ((rd_T42 l0 x5_2).f3))).trans hx191_3; replace hx191_4 := (cell_far (p := ⟨gb190, 4, none⟩) (by first | (rw [add_block]; exact hn191_4) | (show (Addr.add _ _).block ≠ _; rw [add_block]; exact hn191_4) | exact hn191_4) (.int .i64 ((rd_T42 l0 x5_2).f3))).trans hx191_4; replace hx191_5 := (cell_far (p := ⟨gb190, 4, none⟩) (by first | (rw [add_block]; exact hn191_4) | (show (Addr.add _ _).block ≠ _; rw [add_block]; exact hn191_4) | exact hn191_4) (.int .i64 ((rd_T42 l0 x5_2).f3))).trans hx191_5; replace hx191_0 := (cell_far (p := ⟨gb190, 5, none⟩) (by first | (rw [add_block]; exact hn191_5) | (show (Addr.add _ _).block ≠ _; rw [add_block]; exact hn191_5) | exact hn191_5) (.int .i64 ((rd_T42 l0 x5_2).f4))).trans hx191_0; replace hx191_1 := (cell_far (p := ⟨gb190, 5, none⟩) (by first | (rw [add_block]; exact hn191_5) | (show (Addr.add _ _).block ≠ _; rw [add_block]; exact hn191_5) | exact hn191_5) (.int .i64 ((rd_T42 l0 x5_2).f4))).trans hx191_1; replace hx191_2 := (cell_far (p := ⟨gb190, 5, none⟩) (by first | (rw [add_block]; exact hn191_5) | (show (Addr.add _ _).block ≠ _; rw [add_block]; exact hn191_5) | exact hn191_5) (.int .i64 ((rd_T42 l0 x5_2).f4))).trans hx191_2; replace hx191_3 := (cell_far (p := ⟨gb190, 5, none⟩) (by first | (rw [add_block]; exact hn191_5) | (show (Addr.add _ _).block ≠ _; rw [add_block]; exact hn191_5) | exact hn191_5) (.int .i64 ((rd_T42 l0 x5_2).f4))).trans hx191_3; replace hx191_4 := (cell_far (p := ⟨gb190, 5, none⟩) (by first | (rw [add_block]; exact hn191_5) | (show (Addr.add _ _).block ≠ _; rw [add_block]; exact hn191_5) | exact hn191_5) (.int .i64 ((rd_T42 l0 x5_2).f4))).trans hx191_4; replace hx191_5 := (cell_far (p := ⟨gb190, 5, none⟩) (by first | (rw [add_block]; exact hn191_5) | (show (Addr.add _ _).block ≠ _; rw [add_block]; exact hn191_5) | exact hn191_5) (.int .i64 ((rd_T42 l0 x5_2).f4))).trans hx191_5; clear hn191_0; clear hn191_1; clear hn191_2; clear hn191_3; clear hn191_4; clear hn191_5; replace p191 := eq_true p191; replace q191 := eq_true q191))
                go_roundg k2
                case measure => have := HK1.out; have := HK2.out; omega
                case rel => exact ⟨(wrap64 (x5_2 + 1)), (by first | rfl | (simp; done) | (simp [*]; done)), H', ⟨by have := HK1.out; have := HK2.out; omega⟩, ⟨by repeat (first | (with_reducible first | exact HB.out | apply below_alloc | apply pw_below_drewN | apply below_drew1 | refine below_set ?_ GE190.out) | exact HB.out)⟩⟩
              ·rw [if_neg c29] at H
               exact absurd H (by simp)
             ·rw [if_neg c28] at H
              exact absurd H (by simp)
            ·rw [if_neg c26] at H
             have c26b0 : decide (0 < x5_2) = false := decide_eq_false c26
             clear c26
             have H' := Aside0.mk H
             clear H
             have p189 : 0 ≤ (x5_2 : Int) := of_decide_eq_true (by first | (with_reducible assumption) | assumption)
             have q189 : x5_2 < (l0.length : Int) := of_decide_eq_true (by first | (with_reducible assumption) | assumption)
             obtain ⟨ad189, e189, hx189_0, hx189_1, hx189_2, hx189_3, hx189_4, hx189_5⟩ := at_T42 HR0.out x5_2 p189 q189
             cases e189
             replace hx189_0 := (HB.out.cell (World.block_lt_of_cell? w _ hx189_0)).trans hx189_0
             replace hx189_1 := (HB.out.cell (World.block_lt_of_cell? w _ hx189_1)).trans hx189_1
             replace hx189_2 := (HB.out.cell (World.block_lt_of_cell? w _ hx189_2)).trans hx189_2
             replace hx189_3 := (HB.out.cell (World.block_lt_of_cell? w _ hx189_3)).trans hx189_3
             replace hx189_4 := (HB.out.cell (World.block_lt_of_cell? w _ hx189_4)).trans hx189_4
             replace hx189_5 := (HB.out.cell (World.block_lt_of_cell? w _ hx189_5)).trans hx189_5
             replace p189 := eq_true p189
             replace q189 := eq_true q189
             go_wp2_with (first | ((with_reducible refine gate_dst (N := 6) rfl ?_); refine box_event ?hg (N := 6) ?hd (cs := #[.int .i64 0, .int .i64 0, .int .i64 0, .int .i64 0, .int .i64 0, .int .i64 0]) (t := 42) ?hr ?_; (case hd => rfl); (case hg => rfl); (case hr => first | (go_simp; done) | (go_simp; rfl)); intro gb190 hg w35 hbox hb; have n0_ := Aside0.mk (below_step (by repeat (first | (with_reducible first | exact HB.out | apply below_alloc | apply pw_below_drewN | apply below_drew1) | exact HB.out)) hb); have n1_ := Aside0.mk (hbox); have n2_ := Aside0.mk ((by rw [hg]; exact (below_size (by repeat (first | (with_reducible first | exact HB.out | apply below_alloc | apply pw_below_drewN | apply below_drew1) | exact HB.out))) : w.heap.size ≤ gb190)); have n3_ := Aside0.mk ((by rw [hg]; exact (below_size (by repeat (first | (with_reducible first | exact HB.out | apply below_alloc | apply pw_below_drewN | apply below_drew1) | exact HB.out))) : w.heap.size ≤ gb190)); clear HB; have HB := n0_; have BK190 := n1_; have GW190 := n2_; have GE190 := n3_; clear n0_ n1_ n2_ n3_; clear hb hbox hg; have hcz36_0 : w35.cell? ⟨gb190, 0, none⟩ = some (.int .i64 0) := (blk_cell BK190.out 0).trans rfl; have hcz36_1 : w35.cell? ⟨gb190, 1, none⟩ = some (.int .i64 0) := (blk_cell BK190.out 1).trans rfl; have hcz36_2 : w35.cell? ⟨gb190, 2, none⟩ = some (.int .i64 0) := (blk_cell BK190.out 2).trans rfl; have hcz36_3 : w35.cell? ⟨gb190, 3, none⟩ = some (.int .i64 0) := (blk_cell BK190.out 3).trans rfl; have hcz36_4 : w35.cell? ⟨gb190, 4, none⟩ = some (.int .i64 0) := (blk_cell BK190.out 4).trans rfl; have hcz36_5 : w35.cell? ⟨gb190, 5, none⟩ = some (.int .i64 0) := (blk_cell BK190.out 5).trans rfl; have hfz36_0 := blk_frozen BK190.out 0; have hfz36_1 := blk_frozen BK190.out 1; have hfz36_2 := blk_frozen BK190.out 2; have hfz36_3 := blk_frozen BK190.out 3; have hfz36_4 := blk_frozen BK190.out 4; have hfz36_5 := blk_frozen BK190.out 5))
             go_roundg k2
             case measure => have := HK1.out; have := HK2.out; omega
             case rel => exact ⟨(wrap64 (x5_2 + 1)), (by first | rfl | (simp; done) | (simp [*]; done)), H', ⟨by have := HK1.out; have := HK2.out; omega⟩, ⟨by repeat (first | (with_reducible first | exact HB.out | apply below_alloc | apply pw_below_drewN | apply below_drew1 | refine below_set ?_ GE190.out) | exact HB.out)⟩⟩
           ·rw [if_neg c25] at H
            have c25b0 : (((rd_T42 l0 x5_2).f3) == 0) = false := beq_eq_false_iff_ne.mpr c25
            have c25b1 : (((rd_T42 l0 x5_2).f3) != 0) = true := bne_iff_ne.mpr c25
            obtain rfl := Option.some.inj H
            have p189 : 0 ≤ (x5_2 : Int) := of_decide_eq_true (by first | (with_reducible assumption) | assumption)
            have q189 : x5_2 < (l0.length : Int) := of_decide_eq_true (by first | (with_reducible assumption) | assumption)
            obtain ⟨ad189, e189, hx189_0, hx189_1, hx189_2, hx189_3, hx189_4, hx189_5⟩ := at_T42 HR0.out x5_2 p189 q189
            cases e189
            replace hx189_0 := (HB.out.cell (World.block_lt_of_cell? w _ hx189_0)).trans hx189_0
            replace hx189_1 := (HB.out.cell (World.block_lt_of_cell? w _ hx189_1)).trans hx189_1
            replace hx189_2 := (HB.out.cell (World.block_lt_of_cell? w _ hx189_2)).trans hx189_2
            replace hx189_3 := (HB.out.cell (World.block_lt_of_cell? w _ hx189_3)).trans hx189_3
            replace hx189_4 := (HB.out.cell (World.block_lt_of_cell? w _ hx189_4)).trans hx189_4
            replace hx189_5 := (HB.out.cell (World.block_lt_of_cell? w _ hx189_5)).trans hx189_5
            replace p189 := eq_true p189
            replace q189 := eq_true q189
            go_wp2_with (first | ((with_reducible refine gate_dst (N := 6) rfl ?_); refine box_event ?hg (N := 6) ?hd (cs := #[.int .i64 0, .int .i64 0, .int .i64 0, .int .i64 0, .int .i64 0, .int .i64 0]) (t := 42) ?hr ?_; (case hd => rfl); (case hg => rfl); (case hr => first | (go_simp; done) | (go_simp; rfl)); intro gb190 hg w37 hbox hb; have n0_ := Aside0.mk (below_step (by repeat (first | (with_reducible first | exact HB.out | apply below_alloc | apply pw_below_drewN | apply below_drew1) | exact HB.out)) hb); have n1_ := Aside0.mk (hbox); have n2_ := Aside0.mk ((by rw [hg]; exact (below_size (by repeat (first | (with_reducible first | exact HB.out | apply below_alloc | apply pw_below_drewN | apply below_drew1) | exact HB.out))) : w.heap.size ≤ gb190)); have n3_ := Aside0.mk ((by rw [hg]; exact (below_size (by repeat (first | (with_reducible first | exact HB.out | apply below_alloc | apply pw_below_drewN | apply below_drew1) | exact HB.out))) : w.heap.size ≤ gb190)); clear HB; have HB := n0_; have BK190 := n1_; have GW190 := n2_; have GE190 := n3_; clear n0_ n1_ n2_ n3_; clear hb hbox hg; have hcz38_0 : w37.cell? ⟨gb190, 0, none⟩ = some (.int .i64 0) := (blk_cell BK190.out 0).trans rfl; have hcz38_1 : w37.cell? ⟨gb190, 1, none⟩ = some (.int .i64 0) := (blk_cell BK190.out 1).trans rfl; have hcz38_2 : w37.cell? ⟨gb190, 2, none⟩ = some (.int .i64 0) := (blk_cell BK190.out 2).trans rfl; have hcz38_3 : w37.cell? ⟨gb190, 3, none⟩ = some (.int .i64 0) := (blk_cell BK190.out 3).trans rfl; have hcz38_4 : w37.cell? ⟨gb190, 4, none⟩ = some (.int .i64 0) := (blk_cell BK190.out 4).trans rfl; have hcz38_5 : w37.cell? ⟨gb190, 5, none⟩ = some (.int .i64 0) := (blk_cell BK190.out 5).trans rfl; have hfz38_0 := blk_frozen BK190.out 0; have hfz38_1 := blk_frozen BK190.out 1; have hfz38_2 := blk_frozen BK190.out 2; have hfz38_3 := blk_frozen BK190.out 3; have hfz38_4 := blk_frozen BK190.out 4; have hfz38_5 := blk_frozen BK190.out 5))
            go_ret
            exact ⟨by first | rfl | (simp [errW_none, errW_some] <;> rfl) | (simp [*, errW_none, errW_some] <;> rfl), by repeat (first | (with_reducible first | exact HB.out | apply below_alloc | apply pw_below_drewN | apply below_drew1 | refine below_set ?_ GE190.out) | exact HB.out)⟩
         ·rw [if_neg c21] at H
          have c21b0 : (((rd_T42 l0 x5_2).f1) == 0) = false := beq_eq_false_iff_ne.mpr c21
          have c21b1 : (((rd_T42 l0 x5_2).f1) != 0) = true := bne_iff_ne.mpr c21
          obtain rfl := Option.some.inj H
          have p189 : 0 ≤ (x5_2 : Int) := of_decide_eq_true (by first | (with_reducible assumption) | assumption)
          have q189 : x5_2 < (l0.length : Int) := of_decide_eq_true (by first | (with_reducible assumption) | assumption)
          obtain ⟨ad189, e189, hx189_0, hx189_1, hx189_2, hx189_3, hx189_4, hx189_5⟩ := at_T42 HR0.out x5_2 p189 q189
          cases e189
          replace hx189_0 := (HB.out.cell (World.block_lt_of_cell? w _ hx189_0)).trans hx189_0
          replace hx189_1 := (HB.out.cell (World.block_lt_of_cell? w _ hx189_1)).trans hx189_1
          replace hx189_2 := (HB.out.cell (World.block_lt_of_cell? w _ hx189_2)).trans hx189_2
          replace hx189_3 := (HB.out.cell (World.block_lt_of_cell? w _ hx189_3)).trans hx189_3
          replace hx189_4 := (HB.out.cell (World.block_lt_of_cell? w _ hx189_4)).trans hx189_4
          replace hx189_5 := (HB.out.cell (World.block_lt_of_cell? w _ hx189_5)).trans hx189_5
          replace p189 := eq_true p189
          replace q189 := eq_true q189
          go_wp2_with (first | ((with_reducible refine gate_dst (N := 6) rfl ?_); refine box_event ?hg (N := 6) ?hd (cs := #[.int .i64 0, .int .i64 0, .int .i64 0, .int .i64 0, .int .i64 0, .int .i64 0]) (t := 42) ?hr ?_; (case hd => rfl); (case hg => rfl); (case hr => first | (go_simp; done) | (go_simp; rfl)); intro gb190 hg w39 hbox hb; have n0_ := Aside0.mk (below_step (by repeat (first | (with_reducible first | exact HB.out | apply below_alloc | apply pw_below_drewN | apply below_drew1) | exact HB.out)) hb); have n1_ := Aside0.mk (hbox); have n2_ := Aside0.mk ((by rw [hg]; exact (below_size (by repeat (first | (with_reducible first | exact HB.out | apply below_alloc | apply pw_below_drewN | apply below_drew1) | exact HB.out))) : w.heap.size ≤ gb190)); have n3_ := Aside0.mk ((by rw [hg]; exact (below_size (by repeat (first | (with_reducible first | exact HB.out | apply below_alloc | apply pw_below_drewN | apply below_drew1) | exact HB.out))) : w.heap.size ≤ gb190)); clear HB; have HB := n0_; have BK190 := n1_; have GW190 := n2_; have GE190 := n3_; clear n0_ n1_ n2_ n3_; clear hb hbox hg; have hcz40_0 : w39.cell? ⟨gb190, 0, none⟩ = some (.int .i64 0) := (blk_cell BK190.out 0).trans rfl; have hcz40_1 : w39.cell? ⟨gb190, 1, none⟩ = some (.int .i64 0) := (blk_cell BK190.out 1).trans rfl; have hcz40_2 : w39.cell? ⟨gb190, 2, none⟩ = some (.int .i64 0) := (blk_cell BK190.out 2).trans rfl; have hcz40_3 : w39.cell? ⟨gb190, 3, none⟩ = some (.int .i64 0) := (blk_cell BK190.out 3).trans rfl; have hcz40_4 : w39.cell? ⟨gb190, 4, none⟩ = some (.int .i64 0) := (blk_cell BK190.out 4).trans rfl; have hcz40_5 : w39.cell? ⟨gb190, 5, none⟩ = some (.int .i64 0) := (blk_cell BK190.out 5).trans rfl; have hfz40_0 := blk_frozen BK190.out 0; have hfz40_1 := blk_frozen BK190.out 1; have hfz40_2 := blk_frozen BK190.out 2; have hfz40_3 := blk_frozen BK190.out 3; have hfz40_4 := blk_frozen BK190.out 4; have hfz40_5 := blk_frozen BK190.out 5))
          go_ret
          exact ⟨by first | rfl | (simp [errW_none, errW_some] <;> rfl) | (simp [*, errW_none, errW_some] <;> rfl), by repeat (first | (with_reducible first | exact HB.out | apply below_alloc | apply pw_below_drewN | apply below_drew1 | refine below_set ?_ GE190.out) | exact HB.out)⟩
        ·rw [if_neg c20] at H
         have c20b0 : decide (0 < ((rd_T42 l0 x5_2).f4)) = false := decide_eq_false c20
         clear c20
         have H' := Aside0.mk H
         clear H
         have p189 : 0 ≤ (x5_2 : Int) := of_decide_eq_true (by first | (with_reducible assumption) | assumption)
         have q189 : x5_2 < (l0.length : Int) := of_decide_eq_true (by first | (with_reducible assumption) | assumption)
         obtain ⟨ad189, e189, hx189_0, hx189_1, hx189_2, hx189_3, hx189_4, hx189_5⟩ := at_T42 HR0.out x5_2 p189 q189
         cases e189
         replace hx189_0 := (HB.out.cell (World.block_lt_of_cell? w _ hx189_0)).trans hx189_0
         replace hx189_1 := (HB.out.cell (World.block_lt_of_cell? w _ hx189_1)).trans hx189_1
         replace hx189_2 := (HB.out.cell (World.block_lt_of_cell? w _ hx189_2)).trans hx189_2
         replace hx189_3 := (HB.out.cell (World.block_lt_of_cell? w _ hx189_3)).trans hx189_3
         replace hx189_4 := (HB.out.cell (World.block_lt_of_cell? w _ hx189_4)).trans hx189_4
         replace hx189_5 := (HB.out.cell (World.block_lt_of_cell? w _ hx189_5)).trans hx189_5
         replace p189 := eq_true p189
         replace q189 := eq_true q189
         go_wp2_with (first | ((with_reducible refine gate_dst (N := 6) rfl ?_); refine box_event ?hg (N := 6) ?hd (cs := #[.int .i64 0, .int .i64 0, .int .i64 0, .int .i64 0, .int .i64 0, .int .i64 0]) (t := 42) ?hr ?_; (case hd => rfl); (case hg => rfl); (case hr => first | (go_simp; done) | (go_simp; rfl)); intro gb190 hg w41 hbox hb; have n0_ := Aside0.mk (below_step (by repeat (first | (with_reducible first | exact HB.out | apply below_alloc | apply pw_below_drewN | apply below_drew1) | exact HB.out)) hb); have n1_ := Aside0.mk (hbox); have n2_ := Aside0.mk ((by rw [hg]; exact (below_size (by repeat (first | (with_reducible first | exact HB.out | apply below_alloc | apply pw_below_drewN | apply below_drew1) | exact HB.out))) : w.heap.size ≤ gb190)); have n3_ := Aside0.mk ((by rw [hg]; exact (below_size (by repeat (first | (with_reducible first | exact HB.out | apply below_alloc | apply pw_below_drewN | apply below_drew1) | exact HB.out))) : w.heap.size ≤ gb190)); clear HB; have HB := n0_; have BK190 := n1_; have GW190 := n2_; have GE190 := n3_; clear n0_ n1_ n2_ n3_; clear hb hbox hg; have hcz42_0 : w41.cell? ⟨gb190, 0, none⟩ = some (.int .i64 0) := (blk_cell BK190.out 0).trans rfl; have hcz42_1 : w41.cell? ⟨gb190, 1, none⟩ = some (.int .i64 0) := (blk_cell BK190.out 1).trans rfl; have hcz42_2 : w41.cell? ⟨gb190, 2, none⟩ = some (.int .i64 0) := (blk_cell BK190.out 2).trans rfl; have hcz42_3 : w41.cell? ⟨gb190, 3, none⟩ = some (.int .i64 0) := (blk_cell BK190.out 3).trans rfl; have hcz42_4 : w41.cell? ⟨gb190, 4, none⟩ = some (.int .i64 0) := (blk_cell BK190.out 4).trans rfl; have hcz42_5 : w41.cell? ⟨gb190, 5, none⟩ = some (.int .i64 0) := (blk_cell BK190.out 5).trans rfl; have hfz42_0 := blk_frozen BK190.out 0; have hfz42_1 := blk_frozen BK190.out 1; have hfz42_2 := blk_frozen BK190.out 2; have hfz42_3 := blk_frozen BK190.out 3; have hfz42_4 := blk_frozen BK190.out 4; have hfz42_5 := blk_frozen BK190.out 5))
         go_roundg k2
         case measure => have := HK1.out; have := HK2.out; omega
         case rel => exact ⟨(wrap64 (x5_2 + 1)), (by first | rfl | (simp; done) | (simp [*]; done)), H', ⟨by have := HK1.out; have := HK2.out; omega⟩, ⟨by repeat (first | (with_reducible first | exact HB.out | apply below_alloc | apply pw_below_drewN | apply below_drew1 | refine below_set ?_ GE190.out) | exact HB.out)⟩⟩
       ·rw [if_neg c19] at H
        exact absurd H (by simp)
      ·rw [if_neg c18] at H
       have c18b0 : decide (x5_2 < (l0.length : Int)) = false := decide_eq_false c18
       clear c18
       have H' := Aside0.mk H
       clear H
       go_wp2
       go_loopg [7] k2 (fun kq v7 w' => ∃ (x7_3 : Int), v7 = .int .i64 x7_3 ∧ Aside0 (plenumref42_Check.l2 kq l0 x7_3 = some r) ∧ Aside0 (kq ≤ k2) ∧ Aside0 (Below w.heap.size w w'))
       case atStart => exact ⟨(1), (by first | rfl | (simp; done) | (simp [*]; done)), H', ⟨Nat.le_refl _⟩, ⟨by repeat (first | (with_reducible first | exact HB.out | apply below_alloc | apply pw_below_drewN | apply below_drew1) | exact HB.out)⟩⟩
       case round =>
        clear H'
        try clear c1
        try clear p1
        try clear q1
        try clear hx1
        try clear c2
        try clear c2b0
        try clear p2
        try clear c3
        try clear c3b0
        try clear c4
        try clear c5
        try clear p6
        try clear c7
        try clear c9
        try clear c18
        try clear c18b0
        try clear p18
        try clear q18
        try clear hx18
        try clear c19
        try clear c19b0
        try clear p19
        try clear q19
        try clear hx19
        try clear c20
        try clear c20b0
        try clear c21
        try clear c21b0
        try clear c21b1
        try clear c22
        try clear c22b0
        try clear c25
        try clear c25b0
        try clear c25b1
        try clear c26
        try clear c26b0
        try clear c28
        try clear c28b0
        try clear c29
        try clear c29b0
        try clear c30
        try clear c30b0
        try clear c40
        try clear hcz11_0
        try clear hcz11_1
        try clear hcz11_2
        try clear hcz11_3
        try clear hcz11_4
        try clear hcz11_5
        try clear hcz13_0
        try clear hcz13_1
        try clear hcz13_2
        try clear hcz13_3
        try clear hcz13_4
        try clear hcz13_5
        try clear hcz15_0
        try clear hcz15_1
        try clear hcz15_2
        try clear hcz15_3
        try clear hcz15_4
        try clear hcz15_5
        try clear hcz17_0
        try clear hcz17_1
        try clear hcz17_2
        try clear hcz17_3
        try clear hcz17_4
        try clear hcz17_5
        try clear hcz24_0
        try clear hcz24_1
        try clear hcz24_2
        try clear hcz24_3
        try clear hcz24_4
        try clear hcz24_5
        try clear hcz32_0
        try clear hcz32_1
        try clear hcz32_2
        try clear hcz32_3
        try clear hcz32_4
        try clear hcz32_5
        try clear hcz34_0
        try clear hcz34_1
        try clear hcz34_2
        try clear hcz34_3
        try clear hcz34_4
        try clear hcz34_5
        try clear hcz36_0
        try clear hcz36_1
        try clear hcz36_2
        try clear hcz36_3
        try clear hcz36_4
        try clear hcz36_5
        try clear hcz38_0
        try clear hcz38_1
        try clear hcz38_2
        try clear hcz38_3
        try clear hcz38_4
        try clear hcz38_5
        try clear hcz40_0
        try clear hcz40_1
        try clear hcz40_2
        try clear hcz40_3
        try clear hcz40_4
        try clear hcz40_5
        try clear hcz42_0
        try clear hcz42_1
        try clear hcz42_2
        try clear hcz42_3
        try clear hcz42_4
        try clear hcz42_5
        try clear hfz11_0
        try clear hfz11_1
        try clear hfz11_2
        try clear hfz11_3
        try clear hfz11_4
        try clear hfz11_5
        try clear hfz13_0
        try clear hfz13_1
        try clear hfz13_2
        try clear hfz13_3
        try clear hfz13_4
        try clear hfz13_5
        try clear hfz15_0
        try clear hfz15_1
        try clear hfz15_2
        try clear hfz15_3
        try clear hfz15_4
        try clear hfz15_5
        try clear hfz17_0
        try clear hfz17_1
        try clear hfz17_2
        try clear hfz17_3
        try clear hfz17_4
        try clear hfz17_5
        try clear hfz24_0
        try clear hfz24_1
        try clear hfz24_2
        try clear hfz24_3
        try clear hfz24_4
        try clear hfz24_5
        try clear hfz32_0
        try clear hfz32_1
        try clear hfz32_2
        try clear hfz32_3
        try clear hfz32_4
        try clear hfz32_5
        try clear hfz34_0
        try clear hfz34_1
        try clear hfz34_2
        try clear hfz34_3
        try clear hfz34_4
        try clear hfz34_5
        try clear hfz36_0
        try clear hfz36_1
        try clear hfz36_2
        try clear hfz36_3
        try clear hfz36_4
        try clear hfz36_5
        try clear hfz38_0
        try clear hfz38_1
        try clear hfz38_2
        try clear hfz38_3
        try clear hfz38_4
        try clear hfz38_5
        try clear hfz40_0
        try clear hfz40_1
        try clear hfz40_2
        try clear hfz40_3
        try clear hfz40_4
        try clear hfz40_5
        try clear hfz42_0
        try clear hfz42_1
        try clear hfz42_2
        try clear hfz42_3
        try clear hfz42_4
        try clear hfz42_5
        try clear hx184_0
        try clear hx184_1
        try clear hx184_2
        try clear hx184_3
        try clear hx184_4
        try clear hx184_5
        try clear hx189_0
        try clear hx189_1
        try clear hx189_2
        try clear hx189_3
        try clear hx189_4
        try clear hx189_5
        try clear hx191_0
        try clear hx191_1
        try clear hx191_2
        try clear hx191_3
        try clear hx191_4
        try clear hx191_5
        try clear p1
        try clear p184
        try clear p189
        try clear p191
        try clear p2
        try clear p6
        try clear q1
        try clear q184
        try clear q189
        try clear q191
        obtain ⟨x7_3, rfl, HA, HK3, HB⟩ := hrel
        cases gk with
        | zero => exact absurd HA.out (by simp [plenumref42_Check.l2])
        | succ k3 =>
         have H := HA.out
         clear HA
         simp only [plenumref42_Check.l2] at H
         by_cases c43 : x7_3 < (l0.length : Int)
         ·rw [if_pos c43] at H
          have c43b0 : decide (x7_3 < (l0.length : Int)) = true := decide_eq_true c43
          clear c43
          by_cases c44 : 0 ≤ x7_3
          ·rw [if_pos c44] at H
           have c44b0 : decide (0 ≤ x7_3) = true := decide_eq_true c44
           clear c44
           replace H := Option.bind_eq_some_iff.mp H
           obtain ⟨t193, A450, H⟩ := H
           replace H : (if 0 ≤ (wrap64 (x7_3 - 1)) then (if (wrap64 (x7_3 - 1)) < (l0.length : Int) then (if t193 = (wrap64 (((rd_T42 l0 (wrap64 (x7_3 - 1))).f0) + 1)) then (plenumref42_Check.l2 k3 l0 (wrap64 (x7_3 + 1))) else (some 10)) else (none)) else (none)) = some r := H
           have A45 := Aside0.mk A450
           clear A450
           obtain ⟨ji46, hji46⟩ : ∃ j_ : Int, (wrap64 (x7_3 - 1)) = j_ := ⟨_, rfl⟩
           replace H : (if 0 ≤ (ji46) then (if (ji46) < (l0.length : Int) then (if t193 = (wrap64 (((rd_T42 l0 (ji46)).f0) + 1)) then (plenumref42_Check.l2 k3 l0 (wrap64 (x7_3 + 1))) else (some 10)) else (none)) else (none)) = some r := by first | (rw [hji46] at H; exact H) | (simp only [hji46] at H ⊢; exact H)
           (try rw [hji46] at A45)
           have hji46w : (IntKind.i64.wrap (x7_3 - 1)) = ji46 := (i64_w _).trans hji46
           by_cases c47 : 0 ≤ (ji46)
           ·rw [if_pos c47] at H
            have c47b0 : decide (0 ≤ (ji46)) = true := decide_eq_true c47
            clear c47
            by_cases c48 : (ji46) < (l0.length : Int)
            ·rw [if_pos c48] at H
             have c48b0 : decide ((ji46) < (l0.length : Int)) = true := decide_eq_true c48
             clear c48
             by_cases c49 : t193 = (wrap64 (((rd_T42 l0 (ji46)).f0) + 1))
             ·rw [if_pos c49] at H
              have c49b0 : (t193 == (wrap64 (((rd_T42 l0 (ji46)).f0) + 1))) = true := beq_iff_eq.mpr c49
              have c49b1 : (t193 != (wrap64 (((rd_T42 l0 (ji46)).f0) + 1))) = false := bne_eq_false_iff_eq.mpr c49
              clear c49
              have H' := Aside0.mk H
              clear H
              try go_wp2
              have n0_ := Aside0.mk (below_drew1 HB.out)
              clear HB
              have HB := n0_
              clear n0_
              have p192 : 0 ≤ (x7_3 : Int) := of_decide_eq_true (by first | (with_reducible assumption) | assumption)
              have q192 : x7_3 < (l0.length : Int) := of_decide_eq_true (by first | (with_reducible assumption) | assumption)
              obtain ⟨ad192, e192, hx192_0, hx192_1, hx192_2, hx192_3, hx192_4, hx192_5⟩ := at_T42 HR0.out x7_3 p192 q192
              have hw192_5 := hx192_5
              have hw192_4 := hx192_4
              have hw192_3 := hx192_3
              have hw192_2 := hx192_2
              have hw192_1 := hx192_1
              have hw192_0 := hx192_0
              cases e192
              replace hx192_0 := (HB.out.cell (World.block_lt_of_cell? w _ hx192_0)).trans hx192_0
              replace hx192_1 := (HB.out.cell (World.block_lt_of_cell? w _ hx192_1)).trans hx192_1
              replace hx192_2 := (HB.out.cell (World.block_lt_of_cell? w _ hx192_2)).trans hx192_2
              replace hx192_3 := (HB.out.cell (World.block_lt_of_cell? w _ hx192_3)).trans hx192_3
              replace hx192_4 := (HB.out.cell (World.block_lt_of_cell? w _ hx192_4)).trans hx192_4
              replace hx192_5 := (HB.out.cell (World.block_lt_of_cell? w _ hx192_5)).trans hx192_5
              replace p192 := eq_true p192
              replace q192 := eq_true q192
              have p194 : 0 ≤ ((ji46) : Int) := of_decide_eq_true (by first | (with_reducible assumption) | assumption)
              have q194 : (ji46) < (l0.length : Int) := of_decide_eq_true (by first | (with_reducible assumption) | assumption)
              obtain ⟨ad194, e194, hx194_0, hx194_1, hx194_2, hx194_3, hx194_4, hx194_5⟩ := at_T42 HR0.out (ji46) p194 q194
              have hw194_5 := hx194_5
              have hw194_4 := hx194_4
              have hw194_3 := hx194_3
              have hw194_2 := hx194_2
              have hw194_1 := hx194_1
              have hw194_0 := hx194_0
              obtain rfl : ad192 = ad194 := (by injection e194)
              replace hx194_0 := (HB.out.cell (World.block_lt_of_cell? w _ hx194_0)).trans hx194_0
              replace hx194_1 := (HB.out.cell (World.block_lt_of_cell? w _ hx194_1)).trans hx194_1
              replace hx194_2 := (HB.out.cell (World.block_lt_of_cell? w _ hx194_2)).trans hx194_2
              replace hx194_3 := (HB.out.cell (World.block_lt_of_cell? w _ hx194_3)).trans hx194_3
              replace hx194_4 := (HB.out.cell (World.block_lt_of_cell? w _ hx194_4)).trans hx194_4
              replace hx194_5 := (HB.out.cell (World.block_lt_of_cell? w _ hx194_5)).trans hx194_5
              replace p194 := eq_true p194
              replace q194 := eq_true q194
              refine start_ (n := 13) (S := fun w' => w'.cell? (ad192.add ((x7_3).toNat * 6)) = some (.int .i64 ((rd_T42 l0 x7_3).f0)) ∧ w'.cell? ⟨(ad192.add ((x7_3).toNat * 6)).block, (ad192.add ((x7_3).toNat * 6)).off + 1, none⟩ = some (.int .i64 ((rd_T42 l0 x7_3).f1)) ∧ w'.cell? ⟨(ad192.add ((x7_3).toNat * 6)).block, (ad192.add ((x7_3).toNat * 6)).off + 2, none⟩ = some (.int .i64 ((rd_T42 l0 x7_3).f2.f0)) ∧ w'.cell? ⟨(ad192.add ((x7_3).toNat * 6)).block, (ad192.add ((x7_3).toNat * 6)).off + 3, none⟩ = some (.int .i64 ((rd_T42 l0 x7_3).f2.f1)) ∧ w'.cell? ⟨(ad192.add ((x7_3).toNat * 6)).block, (ad192.add ((x7_3).toNat * 6)).off + 4, none⟩ = some (.int .i64 ((rd_T42 l0 x7_3).f3)) ∧ w'.cell? ⟨(ad192.add ((x7_3).toNat * 6)).block, (ad192.add ((x7_3).toNat * 6)).off + 5, none⟩ = some (.int .i64 ((rd_T42 l0 x7_3).f4)) ∧ w'.cell? (ad192.add (((ji46)).toNat * 6)) = some (.int .i64 ((rd_T42 l0 (ji46)).f0)) ∧ w'.cell? ⟨(ad192.add (((ji46)).toNat * 6)).block, (ad192.add (((ji46)).toNat * 6)).off + 1, none⟩ = some (.int .i64 ((rd_T42 l0 (ji46)).f1)) ∧ w'.cell? ⟨(ad192.add (((ji46)).toNat * 6)).block, (ad192.add (((ji46)).toNat * 6)).off + 2, none⟩ = some (.int .i64 ((rd_T42 l0 (ji46)).f2.f0)) ∧ w'.cell? ⟨(ad192.add (((ji46)).toNat * 6)).block, (ad192.add (((ji46)).toNat * 6)).off + 3, none⟩ = some (.int .i64 ((rd_T42 l0 (ji46)).f2.f1)) ∧ w'.cell? ⟨(ad192.add (((ji46)).toNat * 6)).block, (ad192.add (((ji46)).toNat * 6)).off + 4, none⟩ = some (.int .i64 ((rd_T42 l0 (ji46)).f3)) ∧ w'.cell? ⟨(ad192.add (((ji46)).toNat * 6)).block, (ad192.add (((ji46)).toNat * 6)).off + 5, none⟩ = some (.int .i64 ((rd_T42 l0 (ji46)).f4))) (ds := []) #[false, false, false, false, false, false, false, false, false, false, false, false, false] (by kernel_rfl) rfl rfl ⟨((HB.out.cell (World.block_lt_of_cell? w _ hw192_0)).trans hw192_0), ((HB.out.cell (World.block_lt_of_cell? w _ hw192_1)).trans hw192_1), ((HB.out.cell (World.block_lt_of_cell? w _ hw192_2)).trans hw192_2), ((HB.out.cell (World.block_lt_of_cell? w _ hw192_3)).trans hw192_3), ((HB.out.cell (World.block_lt_of_cell? w _ hw192_4)).trans hw192_4), ((HB.out.cell (World.block_lt_of_cell? w _ hw192_5)).trans hw192_5), ((HB.out.cell (World.block_lt_of_cell? w _ hw194_0)).trans hw194_0), ((HB.out.cell (World.block_lt_of_cell? w _ hw194_1)).trans hw194_1), ((HB.out.cell (World.block_lt_of_cell? w _ hw194_2)).trans hw194_2), ((HB.out.cell (World.block_lt_of_cell? w _ hw194_3)).trans hw194_3), ((HB.out.cell (World.block_lt_of_cell? w _ hw194_4)).trans hw194_4), ((HB.out.cell (World.block_lt_of_cell? w _ hw194_5)).trans hw194_5)⟩ (fun hHeld => ?_); refine with_tabW plenumref42_Check.tab16 plenumref42_Check.bits16 (fun HT_ HW_ => ?_)
              generalize wr.drew = w50 at HB hx192_0 hx192_1 hx192_2 hx192_3 hx192_4 hx192_5 hx194_0 hx194_1 hx194_2 hx194_3 hx194_4 hx194_5 hHeld ⊢
              refine pure_ (i := 0) (N := some 84) (v := ?_) (a' := ?_) #[true, false, false, false, false, false, false, false, false, false, false, false, false] rfl rfl (any_of HT_.out (by kernel_rfl)) (fun _ _ _ h => h) (Or.inl ⟨by rfl, ?_⟩) ?_ ?_
              rotate_left
              ·intro w'
               go_simp
               with_reducible rfl
              rotate_left
              ·simp only [Act.put, List.setIfInBounds_toArray, List.set_cons_zero, List.set_cons_succ, i64_w, i32_w]
               rfl
              refine pure_ (i := 1) (N := some 85) (v := ?_) (a' := ?_) #[true, true, false, false, false, false, false, false, false, false, false, false, false] rfl rfl (any_of HT_.out (by kernel_rfl)) (fun _ _ _ h => h) (Or.inl ⟨by rfl, ?_⟩) ?_ ?_
              rotate_left
              ·intro w'
               go_simp
               with_reducible rfl
              rotate_left
              ·simp only [Act.put, List.setIfInBounds_toArray, List.set_cons_zero, List.set_cons_succ, i64_w, i32_w]
               rfl
              refine pure_ (i := 2) (N := some 86) (v := ?_) (a' := ?_) #[true, true, true, false, false, false, false, false, false, false, false, false, false] rfl rfl (any_of HT_.out (by kernel_rfl)) (fun _ _ _ h => h) (Or.inl ⟨by rfl, ?_⟩) ?_ ?_
              rotate_left
              ·intro w'
               go_simp
               with_reducible rfl
              rotate_left
              ·simp only [Act.put, List.setIfInBounds_toArray, List.set_cons_zero, List.set_cons_succ, i64_w, i32_w]
               rfl
              refine pure_ (i := 5) (N := some 89) (v := ?_) (a' := ?_) #[true, true, true, false, false, true, false, false, false, false, false, false, false] rfl rfl (any_of HT_.out (by kernel_rfl)) (fun _ _ _ h => h) (Or.inl ⟨by rfl, ?_⟩) ?_ ?_
              rotate_left
              ·intro w'
               go_simp
               with_reducible rfl
              rotate_left
              ·simp only [Act.put, List.setIfInBounds_toArray, List.set_cons_zero, List.set_cons_succ, i64_w, i32_w]
               rfl
              refine pure_ (i := 6) (N := some 90) (v := ?_) (a' := ?_) #[true, true, true, false, false, true, true, false, false, false, false, false, false] rfl rfl (any_of HT_.out (by kernel_rfl)) (fun _ _ _ h => h) (Or.inl ⟨by rfl, ?_⟩) ?_ ?_
              rotate_left
              ·intro w'
               go_simp
               with_reducible rfl
              rotate_left
              ·simp only [Act.put, List.setIfInBounds_toArray, List.set_cons_zero, List.set_cons_succ, i64_w, i32_w]
               rfl
              refine pure_ (i := 7) (N := some 91) (v := ?_) (a' := ?_) #[true, true, true, false, false, true, true, true, false, false, false, false, false] rfl rfl (any_of HT_.out (by kernel_rfl)) (fun _ _ _ h => h) (Or.inl ⟨by rfl, ?_⟩) ?_ ?_
              rotate_left
              ·intro w'
               go_simp
               with_reducible rfl
              rotate_left
              ·simp only [Act.put, List.setIfInBounds_toArray, List.set_cons_zero, List.set_cons_succ, i64_w, i32_w]
               rfl
              refine pure_ (i := 8) (N := some 92) (v := ?_) (a' := ?_) #[true, true, true, false, false, true, true, true, true, false, false, false, false] rfl rfl (any_of HT_.out (by kernel_rfl)) (fun _ _ _ h => h) (Or.inl ⟨by rfl, ?_⟩) ?_ ?_
              rotate_left
              ·intro w'
               go_simp
               with_reducible rfl
              rotate_left
              ·simp only [Act.put, List.setIfInBounds_toArray, List.set_cons_zero, List.set_cons_succ, i64_w, i32_w]
               rfl
              refine pure_ (i := 9) (N := some 93) (v := ?_) (a' := ?_) #[true, true, true, false, false, true, true, true, true, true, false, false, false] rfl rfl (any_of HT_.out (by kernel_rfl)) (fun _ _ _ h => h) (Or.inl ⟨by rfl, ?_⟩) ?_ ?_
              rotate_left
              ·intro w'
               go_simp
               with_reducible rfl
              rotate_left
              ·simp only [Act.put, List.setIfInBounds_toArray, List.set_cons_zero, List.set_cons_succ, i64_w, i32_w]
               rfl
              refine take_ (i := 3) (N := some 87) (v := ?_) (a' := ?_) #[true, true, true, true, false, true, true, true, true, true, false, false, false] rfl rfl (take_ofW HT_.out HW_.out (by kernel_rfl)) (fun _ _ _ h => h) (Or.inl ⟨by rfl, ?_⟩) hHeld ?_ ?_
              rotate_left
              ·rintro w' ⟨s0, s1, s2, s3, s4, s5, s6, s7, s8, s9, s10, s11⟩
               go_simp
               with_reducible rfl
              rotate_left
              ·simp only [Act.put, List.setIfInBounds_toArray, List.set_cons_zero, List.set_cons_succ, i64_w, i32_w]
               rfl
              refine take_ (i := 10) (N := some 94) (v := ?_) (a' := ?_) #[true, true, true, true, false, true, true, true, true, true, true, false, false] rfl rfl (take_ofW HT_.out HW_.out (by kernel_rfl)) (fun _ _ _ h => h) (Or.inl ⟨by rfl, ?_⟩) hHeld ?_ ?_
              rotate_left
              ·rintro w' ⟨s0, s1, s2, s3, s4, s5, s6, s7, s8, s9, s10, s11⟩
               go_simp
               with_reducible rfl
              rotate_left
              ·simp only [Act.put, List.setIfInBounds_toArray, List.set_cons_zero, List.set_cons_succ, i64_w, i32_w]
               rfl
              refine pure_ (i := 11) (N := some 95) (v := ?_) (a' := ?_) #[true, true, true, true, false, true, true, true, true, true, true, true, false] rfl rfl (any_of HT_.out (by kernel_rfl)) (fun _ _ _ h => h) (Or.inl ⟨by rfl, ?_⟩) ?_ ?_
              rotate_left
              ·intro w'
               go_simp
               with_reducible rfl
              rotate_left
              ·simp only [Act.put, List.setIfInBounds_toArray, List.set_cons_zero, List.set_cons_succ, i64_w, i32_w]
               rfl
              refine one_ (i := 4) (N := some 88) #[true, true, true, true, true, true, true, true, true, true, true, true, false] rfl rfl (one_of HT_.out (by kernel_rfl)) (by decide) (fun K hK => ?_)
              refine goes_ Try.func22 (by kernel_rfl) rfl #[.agg #[.int .i64 ((rd_T42 l0 x7_3).f0), .int .i64 ((rd_T42 l0 x7_3).f1), .int .i64 ((rd_T42 l0 x7_3).f2.f0), .int .i64 ((rd_T42 l0 x7_3).f2.f1), .int .i64 ((rd_T42 l0 x7_3).f3), .int .i64 ((rd_T42 l0 x7_3).f4)]] (by rfl) rfl rfl (by (try simp only [List.map_toArray, List.map_cons, List.map_nil]); first | done | rfl | (simp only [List.length_drop, List.length_take]; rfl)) ?_
              with_reducible refine (plenumref42_First.calls ((rd_T42 l0 x7_3).f0) ((rd_T42 l0 x7_3).f1) ((rd_T42 l0 x7_3).f2.f0) ((rd_T42 l0 x7_3).f2.f1) ((rd_T42 l0 x7_3).f3) ((rd_T42 l0 x7_3).f4) t193 _ A45.out).mono ?_
              rintro e w51 ⟨rfl, hb⟩
              refine ⟨_, rfl, ?_⟩
              have n0_ := Aside0.mk (below_step (by repeat (first | (with_reducible first | exact HB.out | apply below_alloc | apply pw_below_drewN | apply below_drew1) | exact HB.out)) hb)
              clear HB
              have HB := n0_
              clear n0_
              (try clear hb)
              (try clear hb2)
              (try clear hk)
              (try clear hi)
              refine hK.out _ _ ⟨((HB.out.cell (World.block_lt_of_cell? w _ hw192_0)).trans hw192_0), ((HB.out.cell (World.block_lt_of_cell? w _ hw192_1)).trans hw192_1), ((HB.out.cell (World.block_lt_of_cell? w _ hw192_2)).trans hw192_2), ((HB.out.cell (World.block_lt_of_cell? w _ hw192_3)).trans hw192_3), ((HB.out.cell (World.block_lt_of_cell? w _ hw192_4)).trans hw192_4), ((HB.out.cell (World.block_lt_of_cell? w _ hw192_5)).trans hw192_5), ((HB.out.cell (World.block_lt_of_cell? w _ hw194_0)).trans hw194_0), ((HB.out.cell (World.block_lt_of_cell? w _ hw194_1)).trans hw194_1), ((HB.out.cell (World.block_lt_of_cell? w _ hw194_2)).trans hw194_2), ((HB.out.cell (World.block_lt_of_cell? w _ hw194_3)).trans hw194_3), ((HB.out.cell (World.block_lt_of_cell? w _ hw194_4)).trans hw194_4), ((HB.out.cell (World.block_lt_of_cell? w _ hw194_5)).trans hw194_5)⟩ (fun hHeld => ?_)
              clear hK K
              refine norm_ (a' := ?_) ?_ ?_
              rotate_left
              ·show Act.put _ (some 88) _ = _
               simp only [Act.put, List.setIfInBounds_toArray, List.set_cons_zero, List.set_cons_succ, i64_w, i32_w]
               rfl
              refine pure_ (i := 12) (N := some 96) (v := ?_) (a' := ?_) #[true, true, true, true, true, true, true, true, true, true, true, true, true] rfl rfl (any_of HT_.out (by kernel_rfl)) (fun _ _ _ h => h) (Or.inl ⟨by rfl, ?_⟩) ?_ ?_
              rotate_left
              ·intro w'
               go_simp
               with_reducible rfl
              rotate_left
              ·simp only [Act.put, List.setIfInBounds_toArray, List.set_cons_zero, List.set_cons_succ, i64_w, i32_w]
               rfl
              refine done_ (done_of HT_.out (by kernel_rfl)) ?_
              try go_wp2
              go_roundg k3
              case measure => have := HK1.out; have := HK2.out; have := HK3.out; omega
              case rel => exact ⟨(wrap64 (x7_3 + 1)), (by first | rfl | (simp; done) | (simp [*]; done)), H', ⟨by have := HK1.out; have := HK2.out; have := HK3.out; omega⟩, ⟨by repeat (first | (with_reducible first | exact HB.out | apply below_alloc | apply pw_below_drewN | apply below_drew1) | exact HB.out)⟩⟩
             ·rw [if_neg c49] at H
              have c49b0 : (t193 == (wrap64 (((rd_T42 l0 (ji46)).f0) + 1))) = false := beq_eq_false_iff_ne.mpr c49
              have c49b1 : (t193 != (wrap64 (((rd_T42 l0 (ji46)).f0) + 1))) = true := bne_iff_ne.mpr c49
              obtain rfl := Option.some.inj H
              try go_wp2
              have n0_ := Aside0.mk (below_drew1 HB.out)
              clear HB
              have HB := n0_
              clear n0_
              have p192 : 0 ≤ (x7_3 : Int) := of_decide_eq_true (by first | (with_reducible assumption) | assumption)
              have q192 : x7_3 < (l0.length : Int) := of_decide_eq_true (by first | (with_reducible assumption) | assumption)
              obtain ⟨ad192, e192, hx192_0, hx192_1, hx192_2, hx192_3, hx192_4, hx192_5⟩ := at_T42 HR0.out x7_3 p192 q192
              have hw192_5 := hx192_5
              have hw192_4 := hx192_4
              have hw192_3 := hx192_3
              have hw192_2 := hx192_2
              have hw192_1 := hx192_1
              have hw192_0 := hx192_0
              cases e192
              replace hx192_0 := (HB.out.cell (World.block_lt_of_cell? w _ hx192_0)).trans hx192_0
              replace hx192_1 := (HB.out.cell (World.block_lt_of_cell? w _ hx192_1)).trans hx192_1
              replace hx192_2 := (HB.out.cell (World.block_lt_of_cell? w _ hx192_2)).trans hx192_2
              replace hx192_3 := (HB.out.cell (World.block_lt_of_cell? w _ hx192_3)).trans hx192_3
              replace hx192_4 := (HB.out.cell (World.block_lt_of_cell? w _ hx192_4)).trans hx192_4
              replace hx192_5 := (HB.out.cell (World.block_lt_of_cell? w _ hx192_5)).trans hx192_5
              replace p192 := eq_true p192
              replace q192 := eq_true q192
              have p194 : 0 ≤ ((ji46) : Int) := of_decide_eq_true (by first | (with_reducible assumption) | assumption)
              have q194 : (ji46) < (l0.length : Int) := of_decide_eq_true (by first | (with_reducible assumption) | assumption)
              obtain ⟨ad194, e194, hx194_0, hx194_1, hx194_2, hx194_3, hx194_4, hx194_5⟩ := at_T42 HR0.out (ji46) p194 q194
              have hw194_5 := hx194_5
              have hw194_4 := hx194_4
              have hw194_3 := hx194_3
              have hw194_2 := hx194_2
              have hw194_1 := hx194_1
              have hw194_0 := hx194_0
              obtain rfl : ad192 = ad194 := (by injection e194)
              replace hx194_0 := (HB.out.cell (World.block_lt_of_cell? w _ hx194_0)).trans hx194_0
              replace hx194_1 := (HB.out.cell (World.block_lt_of_cell? w _ hx194_1)).trans hx194_1
              replace hx194_2 := (HB.out.cell (World.block_lt_of_cell? w _ hx194_2)).trans hx194_2
              replace hx194_3 := (HB.out.cell (World.block_lt_of_cell? w _ hx194_3)).trans hx194_3
              replace hx194_4 := (HB.out.cell (World.block_lt_of_cell? w _ hx194_4)).trans hx194_4
              replace hx194_5 := (HB.out.cell (World.block_lt_of_cell? w _ hx194_5)).trans hx194_5
              replace p194 := eq_true p194
              replace q194 := eq_true q194
              refine start_ (n := 13) (S := fun w' => w'.cell? (ad192.add ((x7_3).toNat * 6)) = some (.int .i64 ((rd_T42 l0 x7_3).f0)) ∧ w'.cell? ⟨(ad192.add ((x7_3).toNat * 6)).block, (ad192.add ((x7_3).toNat * 6)).off + 1, none⟩ = some (.int .i64 ((rd_T42 l0 x7_3).f1)) ∧ w'.cell? ⟨(ad192.add ((x7_3).toNat * 6)).block, (ad192.add ((x7_3).toNat * 6)).off + 2, none⟩ = some (.int .i64 ((rd_T42 l0 x7_3).f2.f0)) ∧ w'.cell? ⟨(ad192.add ((x7_3).toNat * 6)).block, (ad192.add ((x7_3).toNat * 6)).off + 3, none⟩ = some (.int .i64 ((rd_T42 l0 x7_3).f2.f1)) ∧ w'.cell? ⟨(ad192.add ((x7_3).toNat * 6)).block, (ad192.add ((x7_3).toNat * 6)).off + 4, none⟩ = some (.int .i64 ((rd_T42 l0 x7_3).f3)) ∧ w'.cell? ⟨(ad192.add ((x7_3).toNat * 6)).block, (ad192.add ((x7_3).toNat * 6)).off + 5, none⟩ = some (.int .i64 ((rd_T42 l0 x7_3).f4)) ∧ w'.cell? (ad192.add (((ji46)).toNat * 6)) = some (.int .i64 ((rd_T42 l0 (ji46)).f0)) ∧ w'.cell? ⟨(ad192.add (((ji46)).toNat * 6)).block, (ad192.add (((ji46)).toNat * 6)).off + 1, none⟩ = some (.int .i64 ((rd_T42 l0 (ji46)).f1)) ∧ w'.cell? ⟨(ad192.add (((ji46)).toNat * 6)).block, (ad192.add (((ji46)).toNat * 6)).off + 2, none⟩ = some (.int .i64 ((rd_T42 l0 (ji46)).f2.f0)) ∧ w'.cell? ⟨(ad192.add (((ji46)).toNat * 6)).block, (ad192.add (((ji46)).toNat * 6)).off + 3, none⟩ = some (.int .i64 ((rd_T42 l0 (ji46)).f2.f1)) ∧ w'.cell? ⟨(ad192.add (((ji46)).toNat * 6)).block, (ad192.add (((ji46)).toNat * 6)).off + 4, none⟩ = some (.int .i64 ((rd_T42 l0 (ji46)).f3)) ∧ w'.cell? ⟨(ad192.add (((ji46)).toNat * 6)).block, (ad192.add (((ji46)).toNat * 6)).off + 5, none⟩ = some (.int .i64 ((rd_T42 l0 (ji46)).f4))) (ds := []) #[false, false, false, false, false, false, false, false, false, false, false, false, false] (by kernel_rfl) rfl rfl ⟨((HB.out.cell (World.block_lt_of_cell? w _ hw192_0)).trans hw192_0), ((HB.out.cell (World.block_lt_of_cell? w _ hw192_1)).trans hw192_1), ((HB.out.cell (World.block_lt_of_cell? w _ hw192_2)).trans hw192_2), ((HB.out.cell (World.block_lt_of_cell? w _ hw192_3)).trans hw192_3), ((HB.out.cell (World.block_lt_of_cell? w _ hw192_4)).trans hw192_4), ((HB.out.cell (World.block_lt_of_cell? w _ hw192_5)).trans hw192_5), ((HB.out.cell (World.block_lt_of_cell? w _ hw194_0)).trans hw194_0), ((HB.out.cell (World.block_lt_of_cell? w _ hw194_1)).trans hw194_1), ((HB.out.cell (World.block_lt_of_cell? w _ hw194_2)).trans hw194_2), ((HB.out.cell (World.block_lt_of_cell? w _ hw194_3)).trans hw194_3), ((HB.out.cell (World.block_lt_of_cell? w _ hw194_4)).trans hw194_4), ((HB.out.cell (World.block_lt_of_cell? w _ hw194_5)).trans hw194_5)⟩ (fun hHeld => ?_); refine with_tabW plenumref42_Check.tab16 plenumref42_Check.bits16 (fun HT_ HW_ => ?_)
              generalize wr.drew = w52 at HB hx192_0 hx192_1 hx192_2 hx192_3 hx192_4 hx192_5 hx194_0 hx194_1 hx194_2 hx194_3 hx194_4 hx194_5 hHeld ⊢
              refine pure_ (i := 0) (N := some 84) (v := ?_) (a' := ?_) #[true, false, false, false, false, false, false, false, false, false, false, false, false] rfl rfl (any_of HT_.out (by kernel_rfl)) (fun _ _ _ h => h) (Or.inl ⟨by rfl, ?_⟩) ?_ ?_
              rotate_left
              ·intro w'
               go_simp
               with_reducible rfl
              rotate_left
              ·simp only [Act.put, List.setIfInBounds_toArray, List.set_cons_zero, List.set_cons_succ, i64_w, i32_w]
               rfl
              refine pure_ (i := 1) (N := some 85) (v := ?_) (a' := ?_) #[true, true, false, false, false, false, false, false, false, false, false, false, false] rfl rfl (any_of HT_.out (by kernel_rfl)) (fun _ _ _ h => h) (Or.inl ⟨by rfl, ?_⟩) ?_ ?_
              rotate_left
              ·intro w'
               go_simp
               with_reducible rfl
              rotate_left
              ·simp only [Act.put, List.setIfInBounds_toArray, List.set_cons_zero, List.set_cons_succ, i64_w, i32_w]
               rfl
              refine pure_ (i := 2) (N := some 86) (v := ?_) (a' := ?_) #[true, true, true, false, false, false, false, false, false, false, false, false, false] rfl rfl (any_of HT_.out (by kernel_rfl)) (fun _ _ _ h => h) (Or.inl ⟨by rfl, ?_⟩) ?_ ?_
              rotate_left
              ·intro w'
               go_simp
               with_reducible rfl
              rotate_left
              ·simp only [Act.put, List.setIfInBounds_toArray, List.set_cons_zero, List.set_cons_succ, i64_w, i32_w]
               rfl
              refine pure_ (i := 5) (N := some 89) (v := ?_) (a' := ?_) #[true, true, true, false, false, true, false, false, false, false, false, false, false] rfl rfl (any_of HT_.out (by kernel_rfl)) (fun _ _ _ h => h) (Or.inl ⟨by rfl, ?_⟩) ?_ ?_
              rotate_left
              ·intro w'
               go_simp
               with_reducible rfl
              rotate_left
              ·simp only [Act.put, List.setIfInBounds_toArray, List.set_cons_zero, List.set_cons_succ, i64_w, i32_w]
               rfl
              refine pure_ (i := 6) (N := some 90) (v := ?_) (a' := ?_) #[true, true, true, false, false, true, true, false, false, false, false, false, false] rfl rfl (any_of HT_.out (by kernel_rfl)) (fun _ _ _ h => h) (Or.inl ⟨by rfl, ?_⟩) ?_ ?_
              rotate_left
              ·intro w'
               go_simp
               with_reducible rfl
              rotate_left
              ·simp only [Act.put, List.setIfInBounds_toArray, List.set_cons_zero, List.set_cons_succ, i64_w, i32_w]
               rfl
              refine pure_ (i := 7) (N := some 91) (v := ?_) (a' := ?_) #[true, true, true, false, false, true, true, true, false, false, false, false, false] rfl rfl (any_of HT_.out (by kernel_rfl)) (fun _ _ _ h => h) (Or.inl ⟨by rfl, ?_⟩) ?_ ?_
              rotate_left
              ·intro w'
               go_simp
               with_reducible rfl
              rotate_left
              ·simp only [Act.put, List.setIfInBounds_toArray, List.set_cons_zero, List.set_cons_succ, i64_w, i32_w]
               rfl
              refine pure_ (i := 8) (N := some 92) (v := ?_) (a' := ?_) #[true, true, true, false, false, true, true, true, true, false, false, false, false] rfl rfl (any_of HT_.out (by kernel_rfl)) (fun _ _ _ h => h) (Or.inl ⟨by rfl, ?_⟩) ?_ ?_
              rotate_left
              ·intro w'
               go_simp
               with_reducible rfl
              rotate_left
              ·simp only [Act.put, List.setIfInBounds_toArray, List.set_cons_zero, List.set_cons_succ, i64_w, i32_w]
               rfl
              refine pure_ (i := 9) (N := some 93) (v := ?_) (a' := ?_) #[true, true, true, false, false, true, true, true, true, true, false, false, false] rfl rfl (any_of HT_.out (by kernel_rfl)) (fun _ _ _ h => h) (Or.inl ⟨by rfl, ?_⟩) ?_ ?_
              rotate_left
              ·intro w'
               go_simp
               with_reducible rfl
              rotate_left
              ·simp only [Act.put, List.setIfInBounds_toArray, List.set_cons_zero, List.set_cons_succ, i64_w, i32_w]
               rfl
              refine take_ (i := 3) (N := some 87) (v := ?_) (a' := ?_) #[true, true, true, true, false, true, true, true, true, true, false, false, false] rfl rfl (take_ofW HT_.out HW_.out (by kernel_rfl)) (fun _ _ _ h => h) (Or.inl ⟨by rfl, ?_⟩) hHeld ?_ ?_
              rotate_left
              ·rintro w' ⟨s0, s1, s2, s3, s4, s5, s6, s7, s8, s9, s10, s11⟩
               go_simp
               with_reducible rfl
              rotate_left
              ·simp only [Act.put, List.setIfInBounds_toArray, List.set_cons_zero, List.set_cons_succ, i64_w, i32_w]
               rfl
              refine take_ (i := 10) (N := some 94) (v := ?_) (a' := ?_) #[true, true, true, true, false, true, true, true, true, true, true, false, false] rfl rfl (take_ofW HT_.out HW_.out (by kernel_rfl)) (fun _ _ _ h => h) (Or.inl ⟨by rfl, ?_⟩) hHeld ?_ ?_
              rotate_left
              ·rintro w' ⟨s0, s1, s2, s3, s4, s5, s6, s7, s8, s9, s10, s11⟩
               go_simp
               with_reducible rfl
              rotate_left
              ·simp only [Act.put, List.setIfInBounds_toArray, List.set_cons_zero, List.set_cons_succ, i64_w, i32_w]
               rfl
              refine pure_ (i := 11) (N := some 95) (v := ?_) (a' := ?_) #[true, true, true, true, false, true, true, true, true, true, true, true, false] rfl rfl (any_of HT_.out (by kernel_rfl)) (fun _ _ _ h => h) (Or.inl ⟨by rfl, ?_⟩) ?_ ?_
              rotate_left
              ·intro w'
               go_simp
               with_reducible rfl
              rotate_left
              ·simp only [Act.put, List.setIfInBounds_toArray, List.set_cons_zero, List.set_cons_succ, i64_w, i32_w]
               rfl
              refine one_ (i := 4) (N := some 88) #[true, true, true, true, true, true, true, true, true, true, true, true, false] rfl rfl (one_of HT_.out (by kernel_rfl)) (by decide) (fun K hK => ?_)
              refine goes_ Try.func22 (by kernel_rfl) rfl #[.agg #[.int .i64 ((rd_T42 l0 x7_3).f0), .int .i64 ((rd_T42 l0 x7_3).f1), .int .i64 ((rd_T42 l0 x7_3).f2.f0), .int .i64 ((rd_T42 l0 x7_3).f2.f1), .int .i64 ((rd_T42 l0 x7_3).f3), .int .i64 ((rd_T42 l0 x7_3).f4)]] (by rfl) rfl rfl (by (try simp only [List.map_toArray, List.map_cons, List.map_nil]); first | done | rfl | (simp only [List.length_drop, List.length_take]; rfl)) ?_
              with_reducible refine (plenumref42_First.calls ((rd_T42 l0 x7_3).f0) ((rd_T42 l0 x7_3).f1) ((rd_T42 l0 x7_3).f2.f0) ((rd_T42 l0 x7_3).f2.f1) ((rd_T42 l0 x7_3).f3) ((rd_T42 l0 x7_3).f4) t193 _ A45.out).mono ?_
              rintro e w53 ⟨rfl, hb⟩
              refine ⟨_, rfl, ?_⟩
              have n0_ := Aside0.mk (below_step (by repeat (first | (with_reducible first | exact HB.out | apply below_alloc | apply pw_below_drewN | apply below_drew1) | exact HB.out)) hb)
              clear HB
              have HB := n0_
              clear n0_
              (try clear hb)
              (try clear hb2)
              (try clear hk)
              (try clear hi)
              refine hK.out _ _ ⟨((HB.out.cell (World.block_lt_of_cell? w _ hw192_0)).trans hw192_0), ((HB.out.cell (World.block_lt_of_cell? w _ hw192_1)).trans hw192_1), ((HB.out.cell (World.block_lt_of_cell? w _ hw192_2)).trans hw192_2), ((HB.out.cell (World.block_lt_of_cell? w _ hw192_3)).trans hw192_3), ((HB.out.cell (World.block_lt_of_cell? w _ hw192_4)).trans hw192_4), ((HB.out.cell (World.block_lt_of_cell? w _ hw192_5)).trans hw192_5), ((HB.out.cell (World.block_lt_of_cell? w _ hw194_0)).trans hw194_0), ((HB.out.cell (World.block_lt_of_cell? w _ hw194_1)).trans hw194_1), ((HB.out.cell (World.block_lt_of_cell? w _ hw194_2)).trans hw194_2), ((HB.out.cell (World.block_lt_of_cell? w _ hw194_3)).trans hw194_3), ((HB.out.cell (World.block_lt_of_cell? w _ hw194_4)).trans hw194_4), ((HB.out.cell (World.block_lt_of_cell? w _ hw194_5)).trans hw194_5)⟩ (fun hHeld => ?_)
              clear hK K
              refine norm_ (a' := ?_) ?_ ?_
              rotate_left
              ·show Act.put _ (some 88) _ = _
               simp only [Act.put, List.setIfInBounds_toArray, List.set_cons_zero, List.set_cons_succ, i64_w, i32_w]
               rfl
              refine pure_ (i := 12) (N := some 96) (v := ?_) (a' := ?_) #[true, true, true, true, true, true, true, true, true, true, true, true, true] rfl rfl (any_of HT_.out (by kernel_rfl)) (fun _ _ _ h => h) (Or.inl ⟨by rfl, ?_⟩) ?_ ?_
              rotate_left
              ·intro w'
               go_simp
               with_reducible rfl
              rotate_left
              ·simp only [Act.put, List.setIfInBounds_toArray, List.set_cons_zero, List.set_cons_succ, i64_w, i32_w]
               rfl
              refine done_ (done_of HT_.out (by kernel_rfl)) ?_
              try go_wp2
              go_ret
              exact ⟨by first | rfl | (simp [errW_none, errW_some] <;> rfl) | (simp only [← hji46]; first | rfl | (simp [errW_none, errW_some] <;> rfl)) | (simp [*, errW_none, errW_some] <;> rfl), by repeat (first | (with_reducible first | exact HB.out | apply below_alloc | apply pw_below_drewN | apply below_drew1) | exact HB.out)⟩
            ·rw [if_neg c48] at H
             exact absurd H (by simp)
           ·rw [if_neg c47] at H
            exact absurd H (by simp)
          ·rw [if_neg c44] at H
           exact absurd H (by simp)
         ·rw [if_neg c43] at H
          have c43b0 : decide (x7_3 < (l0.length : Int)) = false := decide_eq_false c43
          clear c43
          replace H := Option.bind_eq_some_iff.mp H
          obtain ⟨t195, A540, H⟩ := H
          replace H : (if t195 = true then (some 0) else (some 15)) = some r := H
          have A54 := Aside0.mk A540
          clear A540
          by_cases c55 : t195 = true
          ·subst c55
           have H1 : (some 0) = some r := by rw [if_pos rfl] at H; exact H
           clear H
           have H := H1
           clear H1
           obtain rfl := Option.some.inj H
           go_wp2_with (first | ((with_reducible refine gate_callee (f := 39) rfl ?_); refine goesL_ (some 98) rfl rfl Try.func39 (by kernel_rfl) rfl #[.slice A0 l0.length c0] rfl (by (try simp only [List.map_toArray, List.map_cons, List.map_nil]); first | done | rfl | (simp only [List.length_drop, List.length_take]; rfl)) ?_; (with_reducible refine (plenumref42_Rising.calls k3 _ _ l0 true _ ?side1 ?side2 A54.out).mono ?_); (case side1 => repeat (first | exact (Kd.C_below HR0.out HB.out) | (with_reducible refine Kd.C_alloc ?_ _) | (with_reducible refine Kd.C_drewN ?_ _) | (with_reducible refine Kd.C_drew ?_))); (case side2 => exact HC0.out); rintro e w' ⟨rfl, ⟨nd, rfl⟩⟩; refine ⟨_, rfl, ?_⟩))
           go_ret
           exact ⟨by first | rfl | (simp [errW_none, errW_some] <;> rfl) | (simp [*, errW_none, errW_some] <;> rfl), by repeat (first | (with_reducible first | exact HB.out | apply below_alloc | apply pw_below_drewN | apply below_drew1) | exact HB.out)⟩
          ·replace c55 := Bool.eq_false_iff.mpr c55
           subst c55
           have H1 : (some 15) = some r := by rw [if_neg (show ¬ (false = true) by decide)] at H; exact H
           clear H
           have H := H1
           clear H1
           obtain rfl := Option.some.inj H
           go_wp2_with (first | ((with_reducible refine gate_callee (f := 39) rfl ?_); refine goesL_ (some 98) rfl rfl Try.func39 (by kernel_rfl) rfl #[.slice A0 l0.length c0] rfl (by (try simp only [List.map_toArray, List.map_cons, List.map_nil]); first | done | rfl | (simp only [List.length_drop, List.length_take]; rfl)) ?_; (with_reducible refine (plenumref42_Rising.calls k3 _ _ l0 false _ ?side1 ?side2 A54.out).mono ?_); (case side1 => repeat (first | exact (Kd.C_below HR0.out HB.out) | (with_reducible refine Kd.C_alloc ?_ _) | (with_reducible refine Kd.C_drewN ?_ _) | (with_reducible refine Kd.C_drew ?_))); (case side2 => exact HC0.out); rintro e w' ⟨rfl, ⟨nd, rfl⟩⟩; refine ⟨_, rfl, ?_⟩))
           go_ret
           exact ⟨by first | rfl | (simp [errW_none, errW_some] <;> rfl) | (simp [*, errW_none, errW_some] <;> rfl), by repeat (first | (with_reducible first | exact HB.out | apply below_alloc | apply pw_below_drewN | apply below_drew1) | exact HB.out)⟩

end Go.Proofs.Yteclemahimldeaa.K
