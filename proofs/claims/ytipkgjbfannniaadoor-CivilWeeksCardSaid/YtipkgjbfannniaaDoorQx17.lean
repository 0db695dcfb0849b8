-- Written by pp.py (a program of this session, over the kit's print.py) out of the translation. Not trusted: Lean checks it.
import Derived.Test.YtipkgjbfannniaaDoorQx0
import Derived.Test.YtipkgjbfannniaaDoorQx3
import Derived.Test.YtipkgjbfannniaaDoorQx7
namespace Go.Proofs.YtipkgjbfannniaaDoor.Q
open Go.RowKit Go.Proofs.YtipkgjbfannniaaDoorW.PrintWords Go.Proofs.YtipkgjbfannniaaDoorW.PrintLast Go.Proofs.YtipkgjbfannniaaDoorW.PrintMore
attribute [local go_sem] max2_int min2_int max_two min_two max_three min_three max_four min_four   -- for this text's walks alone
attribute [local go_sem] pp_mod256 pp_mod256_w
set_option linter.unusedVariables false
set_option linter.unusedSimpArgs false

/-! ### plenumlaw05_CivilWeeks: function 9 -/
mutual
def plenumlaw05_CivilWeeks.j0 : Nat → Int → Bool → Option (Bool)
  | 0, _, _ => none
  | k + 1, x0, x24 => if x24 = true then (some true) else ((civil_Weekday.f x0).bind fun bt346 => ((civil_Weekday.f (wrap64 (x0 + 1))).bind fun bt348 => ((civil_Weekday.f (wrap64 (x0 + 7))).bind fun bt350 => ((civil_Week.f k x0).bind fun bt352 => ((civil_Week.f k (wrap64 (x0 + 1))).bind fun bt355 => (if bt346.2 = 0 then (if bt348.2 = 0 then (if bt350.2 = 0 then (if bt352.2.2 = 0 then (if bt355.2.2 = 0 then (if bt346.1 = bt350.1 then (plenumlaw05_CivilWeeks.j1 k x0 bt348.1 bt352.1 bt352.2.1 bt355.1 bt355.2.1 (bt348.1 != (wrap64 ((Int.tmod bt346.1 7) + 1)))) else (plenumlaw05_CivilWeeks.j1 k x0 bt348.1 bt352.1 bt352.2.1 bt355.1 bt355.2.1 true)) else (plenumlaw05_CivilWeeks.j1 k x0 bt348.1 bt352.1 bt352.2.1 bt355.1 bt355.2.1 true)) else (plenumlaw05_CivilWeeks.j1 k x0 bt348.1 bt352.1 bt352.2.1 bt355.1 bt355.2.1 true)) else (plenumlaw05_CivilWeeks.j1 k x0 bt348.1 bt352.1 bt352.2.1 bt355.1 bt355.2.1 true)) else (plenumlaw05_CivilWeeks.j1 k x0 bt348.1 bt352.1 bt352.2.1 bt355.1 bt355.2.1 true)) else (plenumlaw05_CivilWeeks.j1 k x0 bt348.1 bt352.1 bt352.2.1 bt355.1 bt355.2.1 true)))))))
def plenumlaw05_CivilWeeks.j1 : Nat → Int → Int → Int → Int → Int → Int → Bool → Option (Bool)
  | 0, _, _, _, _, _, _, _ => none
  | k + 1, x0, x5, x9, x10, x12, x13, x84 => if x84 = true then (some false) else ((civil_Of.f k x0).bind fun bt358 => (if bt358.2.2.2 = 0 then (if bt358.2.1 = 1 then (if bt358.2.2.1 = 4 then (if x9 = bt358.1 then (plenumlaw05_CivilWeeks.j2 k x5 x9 x10 x12 x13 (x10 != 1)) else (plenumlaw05_CivilWeeks.j2 k x5 x9 x10 x12 x13 true)) else (plenumlaw05_CivilWeeks.j2 k x5 x9 x10 x12 x13 false)) else (plenumlaw05_CivilWeeks.j2 k x5 x9 x10 x12 x13 false)) else (plenumlaw05_CivilWeeks.j2 k x5 x9 x10 x12 x13 true)))
def plenumlaw05_CivilWeeks.j2 : Nat → Int → Int → Int → Int → Int → Bool → Option (Bool)
  | 0, _, _, _, _, _, _ => none
  | k + 1, x5, x9, x10, x12, x13, x111 => if x111 = true then (some false) else (if x5 = 1 then (if x9 = x12 then (if x13 = (wrap64 (x10 + 1)) then (some true) else (if x12 = (wrap64 (x9 + 1)) then (if x13 = 1 then (some (decide (x10 ≥ 52))) else (some false)) else (some false))) else (if x12 = (wrap64 (x9 + 1)) then (if x13 = 1 then (some (decide (x10 ≥ 52))) else (some false)) else (some false))) else (if x9 = x12 then (some (x10 == x13)) else (some false)))
end
def plenumlaw05_CivilWeeks.f (k : Nat) (a0 : Int) : Option (Bool) := (plenumlaw05_awake.f k).bind fun t345 => (if t345 = true then (if a0 < 0 then (plenumlaw05_CivilWeeks.j0 k a0 true) else (plenumlaw05_CivilWeeks.j0 k a0 (decide (a0 > 73041)))) else (some false))
theorem plenumlaw05_CivilWeeks.mono_l : ∀ k, (∀ y0 y1, LeO (plenumlaw05_CivilWeeks.j0 k y0 y1) (plenumlaw05_CivilWeeks.j0 (k + 1) y0 y1)) ∧ (∀ y0 y1 y2 y3 y4 y5 y6, LeO (plenumlaw05_CivilWeeks.j1 k y0 y1 y2 y3 y4 y5 y6) (plenumlaw05_CivilWeeks.j1 (k + 1) y0 y1 y2 y3 y4 y5 y6)) ∧ (∀ y0 y1 y2 y3 y4 y5, LeO (plenumlaw05_CivilWeeks.j2 k y0 y1 y2 y3 y4 y5) (plenumlaw05_CivilWeeks.j2 (k + 1) y0 y1 y2 y3 y4 y5))
  | 0 => ⟨fun _ _ r h => by simp [plenumlaw05_CivilWeeks.j0] at h, fun _ _ _ _ _ _ _ r h => by simp [plenumlaw05_CivilWeeks.j1] at h, fun _ _ _ _ _ _ r h => by simp [plenumlaw05_CivilWeeks.j2] at h⟩
  | k + 1 => by
    obtain ⟨ih0, ih1, ih2⟩ := plenumlaw05_CivilWeeks.mono_l k
    refine ⟨?_, ?_, ?_⟩
    · intro y0 y1
      unfold plenumlaw05_CivilWeeks.j0
      repeat' first
      | (with_reducible exact ih0 _ _)
      | (with_reducible exact ih1 _ _ _ _ _ _ _)
      | (with_reducible exact ih2 _ _ _ _ _ _)
      | (with_reducible exact civil_Of.mono _ _)
      | (with_reducible exact civil_Week.mono _ _)
      | (with_reducible exact plenumlaw05_awake.mono _)
      | (with_reducible exact LeO.refl _)
      | (with_reducible exact LeO.none _)
      | (with_reducible refine LeO.ite ?_ ?_)
      | (with_reducible refine LeO.bind ?_ (fun _ => ?_))
      | exact ih0 _ _
      | exact ih1 _ _ _ _ _ _ _
      | exact ih2 _ _ _ _ _ _
      | exact civil_Of.mono _ _
      | exact civil_Week.mono _ _
      | exact plenumlaw05_awake.mono _
      | exact LeO.none _
      | refine LeO.ite ?_ ?_
      | refine LeO.bind ?_ (fun _ => ?_)
    · intro y0 y1 y2 y3 y4 y5 y6
      unfold plenumlaw05_CivilWeeks.j1
      repeat' first
      | (with_reducible exact ih0 _ _)
      | (with_reducible exact ih1 _ _ _ _ _ _ _)
      | (with_reducible exact ih2 _ _ _ _ _ _)
      | (with_reducible exact civil_Of.mono _ _)
      | (with_reducible exact civil_Week.mono _ _)
      | (with_reducible exact plenumlaw05_awake.mono _)
      | (with_reducible exact LeO.refl _)
      | (with_reducible exact LeO.none _)
      | (with_reducible refine LeO.ite ?_ ?_)
      | (with_reducible refine LeO.bind ?_ (fun _ => ?_))
      | exact ih0 _ _
      | exact ih1 _ _ _ _ _ _ _
      | exact ih2 _ _ _ _ _ _
      | exact civil_Of.mono _ _
      | exact civil_Week.mono _ _
      | exact plenumlaw05_awake.mono _
      | exact LeO.none _
      | refine LeO.ite ?_ ?_
      | refine LeO.bind ?_ (fun _ => ?_)
    · intro y0 y1 y2 y3 y4 y5
      unfold plenumlaw05_CivilWeeks.j2
      repeat' first
      | (with_reducible exact ih0 _ _)
      | (with_reducible exact ih1 _ _ _ _ _ _ _)
      | (with_reducible exact ih2 _ _ _ _ _ _)
      | (with_reducible exact civil_Of.mono _ _)
      | (with_reducible exact civil_Week.mono _ _)
      | (with_reducible exact plenumlaw05_awake.mono _)
      | (with_reducible exact LeO.refl _)
      | (with_reducible exact LeO.none _)
      | (with_reducible refine LeO.ite ?_ ?_)
      | (with_reducible refine LeO.bind ?_ (fun _ => ?_))
      | exact ih0 _ _
      | exact ih1 _ _ _ _ _ _ _
      | exact ih2 _ _ _ _ _ _
      | exact civil_Of.mono _ _
      | exact civil_Week.mono _ _
      | exact plenumlaw05_awake.mono _
      | exact LeO.none _
      | refine LeO.ite ?_ ?_
      | refine LeO.bind ?_ (fun _ => ?_)
theorem plenumlaw05_CivilWeeks.mono : ∀ a0 k, LeO (plenumlaw05_CivilWeeks.f k a0) (plenumlaw05_CivilWeeks.f (k + 1) a0) := by
  intro a0 k
  obtain ⟨ih0, ih1, ih2⟩ := plenumlaw05_CivilWeeks.mono_l k
  unfold plenumlaw05_CivilWeeks.f
  repeat' first
      | (with_reducible exact ih0 _ _)
      | (with_reducible exact ih1 _ _ _ _ _ _ _)
      | (with_reducible exact ih2 _ _ _ _ _ _)
      | (with_reducible exact civil_Of.mono _ _)
      | (with_reducible exact civil_Week.mono _ _)
      | (with_reducible exact plenumlaw05_awake.mono _)
      | (with_reducible exact LeO.refl _)
      | (with_reducible exact LeO.none _)
      | (with_reducible refine LeO.ite ?_ ?_)
      | (with_reducible refine LeO.bind ?_ (fun _ => ?_))
      | exact ih0 _ _
      | exact ih1 _ _ _ _ _ _ _
      | exact ih2 _ _ _ _ _ _
      | exact civil_Of.mono _ _
      | exact civil_Week.mono _ _
      | exact plenumlaw05_awake.mono _
      | exact LeO.none _
      | refine LeO.ite ?_ ?_
      | refine LeO.bind ?_ (fun _ => ?_)
set_option maxHeartbeats 8000000 in
set_option maxRecDepth 100000 in
theorem plenumlaw05_CivilWeeks.calls (k : Nat) (a0 : Int) (r : Bool) (w : World) (hLen : LenAt w) (h : plenumlaw05_CivilWeeks.f k a0 = some r) :
    Calls Tryd.prog 9 #[.int .i64 a0] w fun e w' => e = .returned (.bool r) ∧ Below w.heap.size w w' := by
  have HLEN := Aside0.mk hLen
  clear hLen
  have hu23 := Tryd.underlying23
  have HB := Aside0.mk (Below.refl w.heap.size w)
  have H : ((plenumlaw05_awake.f k).bind fun t345 => (if t345 = true then (if a0 < 0 then (plenumlaw05_CivilWeeks.j0 k a0 true) else (plenumlaw05_CivilWeeks.j0 k a0 (decide (a0 > 73041)))) else (some false))) = some r := h
  clear h
  replace H := Option.bind_eq_some_iff.mp H
  obtain ⟨t345, A20, H⟩ := H
  replace H : (if t345 = true then (if a0 < 0 then (plenumlaw05_CivilWeeks.j0 k a0 true) else (plenumlaw05_CivilWeeks.j0 k a0 (decide (a0 > 73041)))) else (some false)) = some r := H
  have A2 := Aside0.mk A20
  clear A20
  by_cases c3 : t345 = true
  · subst c3
    have H1 : (if a0 < 0 then (plenumlaw05_CivilWeeks.j0 k a0 true) else (plenumlaw05_CivilWeeks.j0 k a0 (decide (a0 > 73041)))) = some r := by rw [if_pos rfl] at H; exact H
    clear H
    have H := H1
    clear H1
    have HC4 := Aside0.mk H
    clear H
    go_enter Tryd.func9, Tryd.ntmps9
    go_upto_region 3 with (first | ((with_reducible refine gate_callee (f := 11) rfl ?_); refine goesL_ (some 17) rfl rfl Tryd.func11 (by kernel_rfl) rfl #[] rfl (by (try simp only [List.map_toArray, List.map_cons, List.map_nil]); first | done | rfl | (simp only [List.length_drop, List.length_take]; rfl)) ?_; (with_reducible refine (plenumlaw05_awake.calls k  true _ ?sideLen A2.out).mono ?_); (case sideLen => exact LenAt.below HLEN.out (by repeat (first | (with_reducible first | exact HB.out | apply below_alloc | apply pw_below_drewN | apply below_drew1 | refine below_set ?_ GE362.out) | exact HB.out))); rintro e w5 ⟨rfl, hb⟩; refine ⟨_, rfl, ?_⟩; have n0_ := Aside0.mk (below_step (by repeat (first | (with_reducible first | exact HB.out | apply below_alloc | apply pw_below_drewN | apply below_drew1) | exact HB.out)) hb); clear HB; have HB := n0_; clear n0_; (try clear hb); (try clear hb2); (try clear hk); (try clear hi)))
    (try simp only [Act.put, List.setIfInBounds_toArray, List.set_cons_zero, List.set_cons_succ])
    go_cut [24] (fun v24 wc => ∃ (kq : Nat) (x24_3 : Bool), v24 = .bool x24_3 ∧ Aside0 (plenumlaw05_CivilWeeks.j0 kq a0 x24_3 = some r) ∧ Aside0 (kq ≤ k) ∧ Aside0 (Below w.heap.size w wc))
    case first =>
      have H := HC4.out
      clear HC4
      by_cases c6 : a0 < 0
      · rw [if_pos c6] at H
        have c6b0 : decide (a0 < 0) = true := decide_eq_true c6
        clear c6
        (first | rw [c6b0] | (simp only [i64_w, i32_w]; rw [c6b0]) | skip)
        have H' := Aside0.mk H
        clear H
        go_wp2
        go_meet
        case rel => exact ⟨_, (true), (by first | rfl | (simp; done) | (simp [*]; done)), H', ⟨by first | omega | exact Nat.le_refl _⟩, ⟨by repeat (first | (with_reducible first | exact HB.out | apply below_alloc | apply pw_below_drewN | apply below_drew1) | exact HB.out)⟩⟩
      · rw [if_neg c6] at H
        have c6b0 : decide (a0 < 0) = false := decide_eq_false c6
        clear c6
        (first | rw [c6b0] | (simp only [i64_w, i32_w]; rw [c6b0]) | skip)
        have H' := Aside0.mk H
        clear H
        go_wp2
        go_meet
        case rel => exact ⟨_, (decide (a0 > 73041)), (by first | rfl | (simp; done) | (simp [*]; done)), H', ⟨by first | omega | exact Nat.le_refl _⟩, ⟨by repeat (first | (with_reducible first | exact HB.out | apply below_alloc | apply pw_below_drewN | apply below_drew1) | exact HB.out)⟩⟩
    case rest =>
      clear HC4
      try clear c1
      try clear p2
      try clear c3
      try clear c6
      try clear c6b0
      obtain ⟨kq, x24_3, rfl, HA, HJ3, HB⟩ := hcut
      cases kq with
      | zero => exact absurd HA.out (by simp [plenumlaw05_CivilWeeks.j0])
      | succ kj3 =>
        have H := HA.out
        clear HA
        simp only [plenumlaw05_CivilWeeks.j0] at H
        by_cases c7 : x24_3 = true
        · subst c7
          have H1 : (some true) = some r := by rw [if_pos rfl] at H; exact H
          clear H
          have H := H1
          clear H1
          obtain rfl := Option.some.inj H
          go_wp2
          go_ret
          exact ⟨by first | rfl | (simp [errW_none, errW_some] <;> rfl) | (simp [*, errW_none, errW_some] <;> rfl), by repeat (first | (with_reducible first | exact HB.out | apply below_alloc | apply pw_below_drewN | apply below_drew1) | exact HB.out)⟩
        · replace c7 := Bool.eq_false_iff.mpr c7
          subst c7
          have H1 : ((civil_Weekday.f a0).bind fun bt346 => ((civil_Weekday.f (wrap64 (a0 + 1))).bind fun bt348 => ((civil_Weekday.f (wrap64 (a0 + 7))).bind fun bt350 => ((civil_Week.f kj3 a0).bind fun bt352 => ((civil_Week.f kj3 (wrap64 (a0 + 1))).bind fun bt355 => (if bt346.2 = 0 then (if bt348.2 = 0 then (if bt350.2 = 0 then (if bt352.2.2 = 0 then (if bt355.2.2 = 0 then (if bt346.1 = bt350.1 then (plenumlaw05_CivilWeeks.j1 kj3 a0 bt348.1 bt352.1 bt352.2.1 bt355.1 bt355.2.1 (bt348.1 != (wrap64 ((Int.tmod bt346.1 7) + 1)))) else (plenumlaw05_CivilWeeks.j1 kj3 a0 bt348.1 bt352.1 bt352.2.1 bt355.1 bt355.2.1 true)) else (plenumlaw05_CivilWeeks.j1 kj3 a0 bt348.1 bt352.1 bt352.2.1 bt355.1 bt355.2.1 true)) else (plenumlaw05_CivilWeeks.j1 kj3 a0 bt348.1 bt352.1 bt352.2.1 bt355.1 bt355.2.1 true)) else (plenumlaw05_CivilWeeks.j1 kj3 a0 bt348.1 bt352.1 bt352.2.1 bt355.1 bt355.2.1 true)) else (plenumlaw05_CivilWeeks.j1 kj3 a0 bt348.1 bt352.1 bt352.2.1 bt355.1 bt355.2.1 true)) else (plenumlaw05_CivilWeeks.j1 kj3 a0 bt348.1 bt352.1 bt352.2.1 bt355.1 bt355.2.1 true))))))) = some r := by rw [if_neg (show ¬ (false = true) by decide)] at H; exact H
          clear H
          have H := H1
          clear H1
          replace H := Option.bind_eq_some_iff.mp H
          obtain ⟨⟨t346, t347⟩, A80, H⟩ := H
          replace H : ((civil_Weekday.f (wrap64 (a0 + 1))).bind fun bt348 => ((civil_Weekday.f (wrap64 (a0 + 7))).bind fun bt350 => ((civil_Week.f kj3 a0).bind fun bt352 => ((civil_Week.f kj3 (wrap64 (a0 + 1))).bind fun bt355 => (if t347 = 0 then (if bt348.2 = 0 then (if bt350.2 = 0 then (if bt352.2.2 = 0 then (if bt355.2.2 = 0 then (if t346 = bt350.1 then (plenumlaw05_CivilWeeks.j1 kj3 a0 bt348.1 bt352.1 bt352.2.1 bt355.1 bt355.2.1 (bt348.1 != (wrap64 ((Int.tmod t346 7) + 1)))) else (plenumlaw05_CivilWeeks.j1 kj3 a0 bt348.1 bt352.1 bt352.2.1 bt355.1 bt355.2.1 true)) else (plenumlaw05_CivilWeeks.j1 kj3 a0 bt348.1 bt352.1 bt352.2.1 bt355.1 bt355.2.1 true)) else (plenumlaw05_CivilWeeks.j1 kj3 a0 bt348.1 bt352.1 bt352.2.1 bt355.1 bt355.2.1 true)) else (plenumlaw05_CivilWeeks.j1 kj3 a0 bt348.1 bt352.1 bt352.2.1 bt355.1 bt355.2.1 true)) else (plenumlaw05_CivilWeeks.j1 kj3 a0 bt348.1 bt352.1 bt352.2.1 bt355.1 bt355.2.1 true)) else (plenumlaw05_CivilWeeks.j1 kj3 a0 bt348.1 bt352.1 bt352.2.1 bt355.1 bt355.2.1 true)))))) = some r := H
          have A8 := Aside0.mk A80
          clear A80
          replace H := Option.bind_eq_some_iff.mp H
          obtain ⟨⟨t348, t349⟩, A90, H⟩ := H
          replace H : ((civil_Weekday.f (wrap64 (a0 + 7))).bind fun bt350 => ((civil_Week.f kj3 a0).bind fun bt352 => ((civil_Week.f kj3 (wrap64 (a0 + 1))).bind fun bt355 => (if t347 = 0 then (if t349 = 0 then (if bt350.2 = 0 then (if bt352.2.2 = 0 then (if bt355.2.2 = 0 then (if t346 = bt350.1 then (plenumlaw05_CivilWeeks.j1 kj3 a0 t348 bt352.1 bt352.2.1 bt355.1 bt355.2.1 (t348 != (wrap64 ((Int.tmod t346 7) + 1)))) else (plenumlaw05_CivilWeeks.j1 kj3 a0 t348 bt352.1 bt352.2.1 bt355.1 bt355.2.1 true)) else (plenumlaw05_CivilWeeks.j1 kj3 a0 t348 bt352.1 bt352.2.1 bt355.1 bt355.2.1 true)) else (plenumlaw05_CivilWeeks.j1 kj3 a0 t348 bt352.1 bt352.2.1 bt355.1 bt355.2.1 true)) else (plenumlaw05_CivilWeeks.j1 kj3 a0 t348 bt352.1 bt352.2.1 bt355.1 bt355.2.1 true)) else (plenumlaw05_CivilWeeks.j1 kj3 a0 t348 bt352.1 bt352.2.1 bt355.1 bt355.2.1 true)) else (plenumlaw05_CivilWeeks.j1 kj3 a0 t348 bt352.1 bt352.2.1 bt355.1 bt355.2.1 true))))) = some r := H
          have A9 := Aside0.mk A90
          clear A90
          replace H := Option.bind_eq_some_iff.mp H
          obtain ⟨⟨t350, t351⟩, A100, H⟩ := H
          replace H : ((civil_Week.f kj3 a0).bind fun bt352 => ((civil_Week.f kj3 (wrap64 (a0 + 1))).bind fun bt355 => (if t347 = 0 then (if t349 = 0 then (if t351 = 0 then (if bt352.2.2 = 0 then (if bt355.2.2 = 0 then (if t346 = t350 then (plenumlaw05_CivilWeeks.j1 kj3 a0 t348 bt352.1 bt352.2.1 bt355.1 bt355.2.1 (t348 != (wrap64 ((Int.tmod t346 7) + 1)))) else (plenumlaw05_CivilWeeks.j1 kj3 a0 t348 bt352.1 bt352.2.1 bt355.1 bt355.2.1 true)) else (plenumlaw05_CivilWeeks.j1 kj3 a0 t348 bt352.1 bt352.2.1 bt355.1 bt355.2.1 true)) else (plenumlaw05_CivilWeeks.j1 kj3 a0 t348 bt352.1 bt352.2.1 bt355.1 bt355.2.1 true)) else (plenumlaw05_CivilWeeks.j1 kj3 a0 t348 bt352.1 bt352.2.1 bt355.1 bt355.2.1 true)) else (plenumlaw05_CivilWeeks.j1 kj3 a0 t348 bt352.1 bt352.2.1 bt355.1 bt355.2.1 true)) else (plenumlaw05_CivilWeeks.j1 kj3 a0 t348 bt352.1 bt352.2.1 bt355.1 bt355.2.1 true)))) = some r := H
          have A10 := Aside0.mk A100
          clear A100
          replace H := Option.bind_eq_some_iff.mp H
          obtain ⟨⟨t352, t353, t354⟩, A110, H⟩ := H
          replace H : ((civil_Week.f kj3 (wrap64 (a0 + 1))).bind fun bt355 => (if t347 = 0 then (if t349 = 0 then (if t351 = 0 then (if t354 = 0 then (if bt355.2.2 = 0 then (if t346 = t350 then (plenumlaw05_CivilWeeks.j1 kj3 a0 t348 t352 t353 bt355.1 bt355.2.1 (t348 != (wrap64 ((Int.tmod t346 7) + 1)))) else (plenumlaw05_CivilWeeks.j1 kj3 a0 t348 t352 t353 bt355.1 bt355.2.1 true)) else (plenumlaw05_CivilWeeks.j1 kj3 a0 t348 t352 t353 bt355.1 bt355.2.1 true)) else (plenumlaw05_CivilWeeks.j1 kj3 a0 t348 t352 t353 bt355.1 bt355.2.1 true)) else (plenumlaw05_CivilWeeks.j1 kj3 a0 t348 t352 t353 bt355.1 bt355.2.1 true)) else (plenumlaw05_CivilWeeks.j1 kj3 a0 t348 t352 t353 bt355.1 bt355.2.1 true)) else (plenumlaw05_CivilWeeks.j1 kj3 a0 t348 t352 t353 bt355.1 bt355.2.1 true))) = some r := H
          have A11 := Aside0.mk A110
          clear A110
          replace H := Option.bind_eq_some_iff.mp H
          obtain ⟨⟨t355, t356, t357⟩, A120, H⟩ := H
          replace H : (if t347 = 0 then (if t349 = 0 then (if t351 = 0 then (if t354 = 0 then (if t357 = 0 then (if t346 = t350 then (plenumlaw05_CivilWeeks.j1 kj3 a0 t348 t352 t353 t355 t356 (t348 != (wrap64 ((Int.tmod t346 7) + 1)))) else (plenumlaw05_CivilWeeks.j1 kj3 a0 t348 t352 t353 t355 t356 true)) else (plenumlaw05_CivilWeeks.j1 kj3 a0 t348 t352 t353 t355 t356 true)) else (plenumlaw05_CivilWeeks.j1 kj3 a0 t348 t352 t353 t355 t356 true)) else (plenumlaw05_CivilWeeks.j1 kj3 a0 t348 t352 t353 t355 t356 true)) else (plenumlaw05_CivilWeeks.j1 kj3 a0 t348 t352 t353 t355 t356 true)) else (plenumlaw05_CivilWeeks.j1 kj3 a0 t348 t352 t353 t355 t356 true)) = some r := H
          have A12 := Aside0.mk A120
          clear A120
          have HC13 := Aside0.mk H
          clear H
          go_upto_region 10 with (first | ((with_reducible refine gate_callee (f := 23) rfl ?_); refine goesL_ (some 27) rfl rfl Tryd.func23 (by kernel_rfl) rfl #[.int .i64 a0] rfl (by (try simp only [List.map_toArray, List.map_cons, List.map_nil]); first | done | rfl | (simp only [List.length_drop, List.length_take]; rfl)) ?_; (with_reducible refine (civil_Weekday.calls a0 t346 t347 _ A8.out).mono ?_); rintro e w' ⟨rfl, ⟨nd, rfl⟩⟩; refine ⟨_, rfl, ?_⟩) | ((with_reducible refine gate_callee (f := 23) rfl ?_); refine goesL_ (some 33) rfl rfl Tryd.func23 (by kernel_rfl) rfl #[.int .i64 (wrap64 (a0 + 1))] rfl (by (try simp only [List.map_toArray, List.map_cons, List.map_nil]); first | done | rfl | (simp only [List.length_drop, List.length_take]; rfl)) ?_; (with_reducible refine (civil_Weekday.calls (wrap64 (a0 + 1)) t348 t349 _ A9.out).mono ?_); rintro e w' ⟨rfl, ⟨nd, rfl⟩⟩; refine ⟨_, rfl, ?_⟩) | ((with_reducible refine gate_callee (f := 23) rfl ?_); refine goesL_ (some 39) rfl rfl Tryd.func23 (by kernel_rfl) rfl #[.int .i64 (wrap64 (a0 + 7))] rfl (by (try simp only [List.map_toArray, List.map_cons, List.map_nil]); first | done | rfl | (simp only [List.length_drop, List.length_take]; rfl)) ?_; (with_reducible refine (civil_Weekday.calls (wrap64 (a0 + 7)) t350 t351 _ A10.out).mono ?_); rintro e w' ⟨rfl, ⟨nd, rfl⟩⟩; refine ⟨_, rfl, ?_⟩) | ((with_reducible refine gate_callee (f := 24) rfl ?_); refine goesL_ (some 44) rfl rfl Tryd.func24 (by kernel_rfl) rfl #[.int .i64 a0] rfl (by (try simp only [List.map_toArray, List.map_cons, List.map_nil]); first | done | rfl | (simp only [List.length_drop, List.length_take]; rfl)) ?_; (with_reducible refine (civil_Week.calls kj3 a0 t352 t353 t354 _ A11.out).mono ?_); rintro e w' ⟨rfl, ⟨nd, rfl⟩⟩; refine ⟨_, rfl, ?_⟩) | ((with_reducible refine gate_callee (f := 24) rfl ?_); refine goesL_ (some 51) rfl rfl Tryd.func24 (by kernel_rfl) rfl #[.int .i64 (wrap64 (a0 + 1))] rfl (by (try simp only [List.map_toArray, List.map_cons, List.map_nil]); first | done | rfl | (simp only [List.length_drop, List.length_take]; rfl)) ?_; (with_reducible refine (civil_Week.calls kj3 (wrap64 (a0 + 1)) t355 t356 t357 _ A12.out).mono ?_); rintro e w' ⟨rfl, ⟨nd, rfl⟩⟩; refine ⟨_, rfl, ?_⟩))
          (try simp only [Act.put, List.setIfInBounds_toArray, List.set_cons_zero, List.set_cons_succ])
          go_cut [84] (fun v84 wc => ∃ (kq : Nat) (x84_12 : Bool), v84 = .bool x84_12 ∧ Aside0 (plenumlaw05_CivilWeeks.j1 kq a0 t348 t352 t353 t355 t356 x84_12 = some r) ∧ Aside0 (kq ≤ kj3) ∧ Aside0 (Below w.heap.size w wc))
          case first =>
            have H := HC13.out
            clear HC13
            by_cases c14 : t347 = 0
            · rw [if_pos c14] at H
              have c14b0 : (t347 == 0) = true := beq_iff_eq.mpr c14
              have c14b1 : (t347 != 0) = false := bne_eq_false_iff_eq.mpr c14
              clear c14
              (first | rw [c14b0] | (simp only [i64_w, i32_w]; rw [c14b0]) | skip)
              by_cases c15 : t349 = 0
              · rw [if_pos c15] at H
                have c15b0 : (t349 == 0) = true := beq_iff_eq.mpr c15
                have c15b1 : (t349 != 0) = false := bne_eq_false_iff_eq.mpr c15
                clear c15
                by_cases c16 : t351 = 0
                · rw [if_pos c16] at H
                  have c16b0 : (t351 == 0) = true := beq_iff_eq.mpr c16
                  have c16b1 : (t351 != 0) = false := bne_eq_false_iff_eq.mpr c16
                  clear c16
                  by_cases c17 : t354 = 0
                  · rw [if_pos c17] at H
                    have c17b0 : (t354 == 0) = true := beq_iff_eq.mpr c17
                    have c17b1 : (t354 != 0) = false := bne_eq_false_iff_eq.mpr c17
                    clear c17
                    by_cases c18 : t357 = 0
                    · rw [if_pos c18] at H
                      have c18b0 : (t357 == 0) = true := beq_iff_eq.mpr c18
                      have c18b1 : (t357 != 0) = false := bne_eq_false_iff_eq.mpr c18
                      clear c18
                      by_cases c19 : t346 = t350
                      · rw [if_pos c19] at H
                        have c19b0 : (t346 == t350) = true := beq_iff_eq.mpr c19
                        have c19b1 : (t346 != t350) = false := bne_eq_false_iff_eq.mpr c19
                        clear c19
                        have H' := Aside0.mk H
                        clear H
                        go_wp2
                        go_meet
                        case rel => exact ⟨_, ((t348 != (wrap64 ((Int.tmod t346 7) + 1)))), (by first | rfl | (simp; done) | (simp [*]; done)), H', ⟨by have := HJ3.out; first | omega | exact Nat.le_refl _⟩, ⟨by repeat (first | (with_reducible first | exact HB.out | apply below_alloc | apply pw_below_drewN | apply below_drew1) | exact HB.out)⟩⟩
                      · rw [if_neg c19] at H
                        have c19b0 : (t346 == t350) = false := beq_eq_false_iff_ne.mpr c19
                        have c19b1 : (t346 != t350) = true := bne_iff_ne.mpr c19
                        have H' := Aside0.mk H
                        clear H
                        go_wp2
                        go_meet
                        case rel => exact ⟨_, (true), (by first | rfl | (simp; done) | (simp [*]; done)), H', ⟨by have := HJ3.out; first | omega | exact Nat.le_refl _⟩, ⟨by repeat (first | (with_reducible first | exact HB.out | apply below_alloc | apply pw_below_drewN | apply below_drew1) | exact HB.out)⟩⟩
                    · rw [if_neg c18] at H
                      have c18b0 : (t357 == 0) = false := beq_eq_false_iff_ne.mpr c18
                      have c18b1 : (t357 != 0) = true := bne_iff_ne.mpr c18
                      have H' := Aside0.mk H
                      clear H
                      go_wp2
                      go_meet
                      case rel => exact ⟨_, (true), (by first | rfl | (simp; done) | (simp [*]; done)), H', ⟨by have := HJ3.out; first | omega | exact Nat.le_refl _⟩, ⟨by repeat (first | (with_reducible first | exact HB.out | apply below_alloc | apply pw_below_drewN | apply below_drew1) | exact HB.out)⟩⟩
                  · rw [if_neg c17] at H
                    have c17b0 : (t354 == 0) = false := beq_eq_false_iff_ne.mpr c17
                    have c17b1 : (t354 != 0) = true := bne_iff_ne.mpr c17
                    have H' := Aside0.mk H
                    clear H
                    go_wp2
                    go_meet
                    case rel => exact ⟨_, (true), (by first | rfl | (simp; done) | (simp [*]; done)), H', ⟨by have := HJ3.out; first | omega | exact Nat.le_refl _⟩, ⟨by repeat (first | (with_reducible first | exact HB.out | apply below_alloc | apply pw_below_drewN | apply below_drew1) | exact HB.out)⟩⟩
                · rw [if_neg c16] at H
                  have c16b0 : (t351 == 0) = false := beq_eq_false_iff_ne.mpr c16
                  have c16b1 : (t351 != 0) = true := bne_iff_ne.mpr c16
                  have H' := Aside0.mk H
                  clear H
                  go_wp2
                  go_meet
                  case rel => exact ⟨_, (true), (by first | rfl | (simp; done) | (simp [*]; done)), H', ⟨by have := HJ3.out; first | omega | exact Nat.le_refl _⟩, ⟨by repeat (first | (with_reducible first | exact HB.out | apply below_alloc | apply pw_below_drewN | apply below_drew1) | exact HB.out)⟩⟩
              · rw [if_neg c15] at H
                have c15b0 : (t349 == 0) = false := beq_eq_false_iff_ne.mpr c15
                have c15b1 : (t349 != 0) = true := bne_iff_ne.mpr c15
                have H' := Aside0.mk H
                clear H
                go_wp2
                go_meet
                case rel => exact ⟨_, (true), (by first | rfl | (simp; done) | (simp [*]; done)), H', ⟨by have := HJ3.out; first | omega | exact Nat.le_refl _⟩, ⟨by repeat (first | (with_reducible first | exact HB.out | apply below_alloc | apply pw_below_drewN | apply below_drew1) | exact HB.out)⟩⟩
            · rw [if_neg c14] at H
              have c14b0 : (t347 == 0) = false := beq_eq_false_iff_ne.mpr c14
              have c14b1 : (t347 != 0) = true := bne_iff_ne.mpr c14
              (first | rw [c14b0] | (simp only [i64_w, i32_w]; rw [c14b0]) | skip)
              have H' := Aside0.mk H
              clear H
              go_wp2
              go_meet
              case rel => exact ⟨_, (true), (by first | rfl | (simp; done) | (simp [*]; done)), H', ⟨by have := HJ3.out; first | omega | exact Nat.le_refl _⟩, ⟨by repeat (first | (with_reducible first | exact HB.out | apply below_alloc | apply pw_below_drewN | apply below_drew1) | exact HB.out)⟩⟩
          case rest =>
            clear HC13
            try clear c1
            try clear c2
            try clear p2
            try clear c3
            try clear c6
            try clear c6b0
            try clear p6
            try clear c7
            try clear c9
            try clear c11
            try clear c14
            try clear c14b0
            try clear c14b1
            try clear c15
            try clear c15b0
            try clear c15b1
            try clear c16
            try clear c16b0
            try clear c16b1
            try clear c17
            try clear c17b0
            try clear c17b1
            try clear c18
            try clear c18b0
            try clear c18b1
            try clear c19
            try clear c19b0
            try clear c19b1
            try clear p2
            obtain ⟨kq, x84_12, rfl, HA, HJ12, HB⟩ := hcut
            cases kq with
            | zero => exact absurd HA.out (by simp [plenumlaw05_CivilWeeks.j1])
            | succ kj12 =>
              have H := HA.out
              clear HA
              simp only [plenumlaw05_CivilWeeks.j1] at H
              by_cases c20 : x84_12 = true
              · subst c20
                have H1 : (some false) = some r := by rw [if_pos rfl] at H; exact H
                clear H
                have H := H1
                clear H1
                obtain rfl := Option.some.inj H
                go_wp2
                go_ret
                exact ⟨by first | rfl | (simp [errW_none, errW_some] <;> rfl) | (simp [*, errW_none, errW_some] <;> rfl), by repeat (first | (with_reducible first | exact HB.out | apply below_alloc | apply pw_below_drewN | apply below_drew1) | exact HB.out)⟩
              · replace c20 := Bool.eq_false_iff.mpr c20
                subst c20
                have H1 : ((civil_Of.f kj12 a0).bind fun bt358 => (if bt358.2.2.2 = 0 then (if bt358.2.1 = 1 then (if bt358.2.2.1 = 4 then (if t352 = bt358.1 then (plenumlaw05_CivilWeeks.j2 kj12 t348 t352 t353 t355 t356 (t353 != 1)) else (plenumlaw05_CivilWeeks.j2 kj12 t348 t352 t353 t355 t356 true)) else (plenumlaw05_CivilWeeks.j2 kj12 t348 t352 t353 t355 t356 false)) else (plenumlaw05_CivilWeeks.j2 kj12 t348 t352 t353 t355 t356 false)) else (plenumlaw05_CivilWeeks.j2 kj12 t348 t352 t353 t355 t356 true))) = some r := by rw [if_neg (show ¬ (false = true) by decide)] at H; exact H
                clear H
                have H := H1
                clear H1
                replace H := Option.bind_eq_some_iff.mp H
                obtain ⟨⟨t358, t359, t360, t361⟩, A210, H⟩ := H
                replace H : (if t361 = 0 then (if t359 = 1 then (if t360 = 4 then (if t352 = t358 then (plenumlaw05_CivilWeeks.j2 kj12 t348 t352 t353 t355 t356 (t353 != 1)) else (plenumlaw05_CivilWeeks.j2 kj12 t348 t352 t353 t355 t356 true)) else (plenumlaw05_CivilWeeks.j2 kj12 t348 t352 t353 t355 t356 false)) else (plenumlaw05_CivilWeeks.j2 kj12 t348 t352 t353 t355 t356 false)) else (plenumlaw05_CivilWeeks.j2 kj12 t348 t352 t353 t355 t356 true)) = some r := H
                have A21 := Aside0.mk A210
                clear A210
                have HC22 := Aside0.mk H
                clear H
                go_upto_region 13 with (first | ((with_reducible refine gate_callee (f := 22) rfl ?_); refine goesL_ (some 87) rfl rfl Tryd.func22 (by kernel_rfl) rfl #[.int .i64 a0] rfl (by (try simp only [List.map_toArray, List.map_cons, List.map_nil]); first | done | rfl | (simp only [List.length_drop, List.length_take]; rfl)) ?_; (with_reducible refine (civil_Of.calls kj12 a0 t358 t359 t360 t361 _ ?sideLen A21.out).mono ?_); (case sideLen => exact LenAt.below HLEN.out (by repeat (first | (with_reducible first | exact HB.out | apply below_alloc | apply pw_below_drewN | apply below_drew1 | refine below_set ?_ GE362.out) | exact HB.out))); rintro e w23 ⟨rfl, hb⟩; refine ⟨_, rfl, ?_⟩; have n0_ := Aside0.mk (below_step (by repeat (first | (with_reducible first | exact HB.out | apply below_alloc | apply pw_below_drewN | apply below_drew1) | exact HB.out)) hb); clear HB; have HB := n0_; clear n0_; (try clear hb); (try clear hb2); (try clear hk); (try clear hi)) | ((with_reducible refine gate_dst (N := 15) rfl ?_); refine box_event ?hg (N := 15) ?hd (cs := #[.int .i64 0, .int .i64 0, .int .i64 0]) (t := 23) ?hr ?_; (case hd => rfl); (case hg => rfl); (case hr => first | (go_simp; done) | (go_simp; rfl)); intro gb362 hg w24 hbox hb; have n0_ := Aside0.mk (below_step (by repeat (first | (with_reducible first | exact HB.out | apply below_alloc | apply pw_below_drewN | apply below_drew1) | exact HB.out)) hb); have n1_ := Aside0.mk (hbox); have n2_ := Aside0.mk ((by rw [hg]; exact (below_size (by repeat (first | (with_reducible first | exact HB.out | apply below_alloc | apply pw_below_drewN | apply below_drew1) | exact HB.out))) : w.heap.size ≤ gb362)); have n3_ := Aside0.mk ((by rw [hg]; exact (below_size (by repeat (first | (with_reducible first | exact HB.out | apply below_alloc | apply pw_below_drewN | apply below_drew1) | exact HB.out))) : w.heap.size ≤ gb362)); clear HB; have HB := n0_; have BK362 := n1_; have GW362 := n2_; have GE362 := n3_; clear n0_ n1_ n2_ n3_; clear hb hbox hg; have hcz25_0 : w24.cell? ⟨gb362, 0, none⟩ = some (.int .i64 0) := (blk_cell BK362.out 0).trans rfl; have hcz25_1 : w24.cell? ⟨gb362, 1, none⟩ = some (.int .i64 0) := (blk_cell BK362.out 1).trans rfl; have hcz25_2 : w24.cell? ⟨gb362, 2, none⟩ = some (.int .i64 0) := (blk_cell BK362.out 2).trans rfl; have hfz25_0 := blk_frozen BK362.out 0; have hfz25_1 := blk_frozen BK362.out 1; have hfz25_2 := blk_frozen BK362.out 2))
                (try simp only [Act.put, List.setIfInBounds_toArray, List.set_cons_zero, List.set_cons_succ])
                go_cut [111] (fun v111 wc => ∃ (kq : Nat) (x111_21 : Bool), v111 = .bool x111_21 ∧ Aside0 (plenumlaw05_CivilWeeks.j2 kq t348 t352 t353 t355 t356 x111_21 = some r) ∧ Aside0 (kq ≤ kj12) ∧ Aside0 (wc.heap[gb362]? = some (.cells #[.int .i64 t358, .int .i64 t359, .int .i64 t360] 23 (0, 0))) ∧ Aside0 (Below w.heap.size w wc))
                case first =>
                  have H := HC22.out
                  clear HC22
                  by_cases c26 : t361 = 0
                  · rw [if_pos c26] at H
                    have c26b0 : (t361 == 0) = true := beq_iff_eq.mpr c26
                    have c26b1 : (t361 != 0) = false := bne_eq_false_iff_eq.mpr c26
                    clear c26
                    (first | rw [c26b0] | (simp only [i64_w, i32_w]; rw [c26b0]) | skip)
                    by_cases c27 : t359 = 1
                    · rw [if_pos c27] at H
                      have c27b0 : (t359 == 1) = true := beq_iff_eq.mpr c27
                      have c27b1 : (t359 != 1) = false := bne_eq_false_iff_eq.mpr c27
                      clear c27
                      by_cases c28 : t360 = 4
                      · rw [if_pos c28] at H
                        have c28b0 : (t360 == 4) = true := beq_iff_eq.mpr c28
                        have c28b1 : (t360 != 4) = false := bne_eq_false_iff_eq.mpr c28
                        clear c28
                        by_cases c29 : t352 = t358
                        · rw [if_pos c29] at H
                          have c29b0 : (t352 == t358) = true := beq_iff_eq.mpr c29
                          have c29b1 : (t352 != t358) = false := bne_eq_false_iff_eq.mpr c29
                          clear c29
                          have H' := Aside0.mk H
                          clear H
                          have hcz30_0 : w24.cell? ⟨gb362, 0, none⟩ = some (.int .i64 0) := (blk_cell BK362.out 0).trans rfl
                          have hcz30_1 : w24.cell? ⟨gb362, 1, none⟩ = some (.int .i64 0) := (blk_cell BK362.out 1).trans rfl
                          have hcz30_2 : w24.cell? ⟨gb362, 2, none⟩ = some (.int .i64 0) := (blk_cell BK362.out 2).trans rfl
                          have hfz30_0 := blk_frozen BK362.out 0
                          have hfz30_1 := blk_frozen BK362.out 1
                          have hfz30_2 := blk_frozen BK362.out 2
                          go_wp2
                          go_meet
                          case rel => exact ⟨_, ((t353 != 1)), (by first | rfl | (simp; done) | (simp [*]; done)), H', ⟨by have := HJ3.out; have := HJ12.out; first | omega | exact Nat.le_refl _⟩, ⟨by (with_reducible repeat (first | refine blk_drewN ?_ _ | refine blk_drew ?_ | refine blk_alloc ?_ _)); refine blk_put (cs := #[.int .i64 t358, .int .i64 t359, .int .i64 0]) ?_ 2 _ rfl; (with_reducible repeat (first | refine blk_drewN ?_ _ | refine blk_drew ?_ | refine blk_alloc ?_ _)); refine blk_put (cs := #[.int .i64 t358, .int .i64 0, .int .i64 0]) ?_ 1 _ rfl; (with_reducible repeat (first | refine blk_drewN ?_ _ | refine blk_drew ?_ | refine blk_alloc ?_ _)); refine blk_put (cs := #[.int .i64 0, .int .i64 0, .int .i64 0]) ?_ 0 _ rfl; (with_reducible repeat (first | refine blk_drewN ?_ _ | refine blk_drew ?_ | refine blk_alloc ?_ _)); exact BK362.out⟩, ⟨by repeat (first | (with_reducible first | exact HB.out | apply below_alloc | apply pw_below_drewN | apply below_drew1 | refine below_set ?_ GE362.out) | exact HB.out)⟩⟩
                        · rw [if_neg c29] at H
                          have c29b0 : (t352 == t358) = false := beq_eq_false_iff_ne.mpr c29
                          have c29b1 : (t352 != t358) = true := bne_iff_ne.mpr c29
                          have H' := Aside0.mk H
                          clear H
                          have hcz31_0 : w24.cell? ⟨gb362, 0, none⟩ = some (.int .i64 0) := (blk_cell BK362.out 0).trans rfl
                          have hcz31_1 : w24.cell? ⟨gb362, 1, none⟩ = some (.int .i64 0) := (blk_cell BK362.out 1).trans rfl
                          have hcz31_2 : w24.cell? ⟨gb362, 2, none⟩ = some (.int .i64 0) := (blk_cell BK362.out 2).trans rfl
                          have hfz31_0 := blk_frozen BK362.out 0
                          have hfz31_1 := blk_frozen BK362.out 1
                          have hfz31_2 := blk_frozen BK362.out 2
                          go_wp2
                          go_meet
                          case rel => exact ⟨_, (true), (by first | rfl | (simp; done) | (simp [*]; done)), H', ⟨by have := HJ3.out; have := HJ12.out; first | omega | exact Nat.le_refl _⟩, ⟨by (with_reducible repeat (first | refine blk_drewN ?_ _ | refine blk_drew ?_ | refine blk_alloc ?_ _)); refine blk_put (cs := #[.int .i64 t358, .int .i64 t359, .int .i64 0]) ?_ 2 _ rfl; (with_reducible repeat (first | refine blk_drewN ?_ _ | refine blk_drew ?_ | refine blk_alloc ?_ _)); refine blk_put (cs := #[.int .i64 t358, .int .i64 0, .int .i64 0]) ?_ 1 _ rfl; (with_reducible repeat (first | refine blk_drewN ?_ _ | refine blk_drew ?_ | refine blk_alloc ?_ _)); refine blk_put (cs := #[.int .i64 0, .int .i64 0, .int .i64 0]) ?_ 0 _ rfl; (with_reducible repeat (first | refine blk_drewN ?_ _ | refine blk_drew ?_ | refine blk_alloc ?_ _)); exact BK362.out⟩, ⟨by repeat (first | (with_reducible first | exact HB.out | apply below_alloc | apply pw_below_drewN | apply below_drew1 | refine below_set ?_ GE362.out) | exact HB.out)⟩⟩
                      · rw [if_neg c28] at H
                        have c28b0 : (t360 == 4) = false := beq_eq_false_iff_ne.mpr c28
                        have c28b1 : (t360 != 4) = true := bne_iff_ne.mpr c28
                        have H' := Aside0.mk H
                        clear H
                        have hcz32_0 : w24.cell? ⟨gb362, 0, none⟩ = some (.int .i64 0) := (blk_cell BK362.out 0).trans rfl
                        have hcz32_1 : w24.cell? ⟨gb362, 1, none⟩ = some (.int .i64 0) := (blk_cell BK362.out 1).trans rfl
                        have hcz32_2 : w24.cell? ⟨gb362, 2, none⟩ = some (.int .i64 0) := (blk_cell BK362.out 2).trans rfl
                        have hfz32_0 := blk_frozen BK362.out 0
                        have hfz32_1 := blk_frozen BK362.out 1
                        have hfz32_2 := blk_frozen BK362.out 2
                        go_wp2
                        go_meet
                        case rel => exact ⟨_, (false), (by first | rfl | (simp; done) | (simp [*]; done)), H', ⟨by have := HJ3.out; have := HJ12.out; first | omega | exact Nat.le_refl _⟩, ⟨by (with_reducible repeat (first | refine blk_drewN ?_ _ | refine blk_drew ?_ | refine blk_alloc ?_ _)); refine blk_put (cs := #[.int .i64 t358, .int .i64 t359, .int .i64 0]) ?_ 2 _ rfl; (with_reducible repeat (first | refine blk_drewN ?_ _ | refine blk_drew ?_ | refine blk_alloc ?_ _)); refine blk_put (cs := #[.int .i64 t358, .int .i64 0, .int .i64 0]) ?_ 1 _ rfl; (with_reducible repeat (first | refine blk_drewN ?_ _ | refine blk_drew ?_ | refine blk_alloc ?_ _)); refine blk_put (cs := #[.int .i64 0, .int .i64 0, .int .i64 0]) ?_ 0 _ rfl; (with_reducible repeat (first | refine blk_drewN ?_ _ | refine blk_drew ?_ | refine blk_alloc ?_ _)); exact BK362.out⟩, ⟨by repeat (first | (with_reducible first | exact HB.out | apply below_alloc | apply pw_below_drewN | apply below_drew1 | refine below_set ?_ GE362.out) | exact HB.out)⟩⟩
                    · rw [if_neg c27] at H
                      have c27b0 : (t359 == 1) = false := beq_eq_false_iff_ne.mpr c27
                      have c27b1 : (t359 != 1) = true := bne_iff_ne.mpr c27
                      have H' := Aside0.mk H
                      clear H
                      have hcz33_0 : w24.cell? ⟨gb362, 0, none⟩ = some (.int .i64 0) := (blk_cell BK362.out 0).trans rfl
                      have hcz33_1 : w24.cell? ⟨gb362, 1, none⟩ = some (.int .i64 0) := (blk_cell BK362.out 1).trans rfl
                      have hcz33_2 : w24.cell? ⟨gb362, 2, none⟩ = some (.int .i64 0) := (blk_cell BK362.out 2).trans rfl
                      have hfz33_0 := blk_frozen BK362.out 0
                      have hfz33_1 := blk_frozen BK362.out 1
                      have hfz33_2 := blk_frozen BK362.out 2
                      go_wp2
                      go_meet
                      case rel => exact ⟨_, (false), (by first | rfl | (simp; done) | (simp [*]; done)), H', ⟨by have := HJ3.out; have := HJ12.out; first | omega | exact Nat.le_refl _⟩, ⟨by (with_reducible repeat (first | refine blk_drewN ?_ _ | refine blk_drew ?_ | refine blk_alloc ?_ _)); refine blk_put (cs := #[.int .i64 t358, .int .i64 t359, .int .i64 0]) ?_ 2 _ rfl; (with_reducible repeat (first | refine blk_drewN ?_ _ | refine blk_drew ?_ | refine blk_alloc ?_ _)); refine blk_put (cs := #[.int .i64 t358, .int .i64 0, .int .i64 0]) ?_ 1 _ rfl; (with_reducible repeat (first | refine blk_drewN ?_ _ | refine blk_drew ?_ | refine blk_alloc ?_ _)); refine blk_put (cs := #[.int .i64 0, .int .i64 0, .int .i64 0]) ?_ 0 _ rfl; (with_reducible repeat (first | refine blk_drewN ?_ _ | refine blk_drew ?_ | refine blk_alloc ?_ _)); exact BK362.out⟩, ⟨by repeat (first | (with_reducible first | exact HB.out | apply below_alloc | apply pw_below_drewN | apply below_drew1 | refine below_set ?_ GE362.out) | exact HB.out)⟩⟩
                  · rw [if_neg c26] at H
                    have c26b0 : (t361 == 0) = false := beq_eq_false_iff_ne.mpr c26
                    have c26b1 : (t361 != 0) = true := bne_iff_ne.mpr c26
                    (first | rw [c26b0] | (simp only [i64_w, i32_w]; rw [c26b0]) | skip)
                    have H' := Aside0.mk H
                    clear H
                    go_wp2
                    go_meet
                    case rel => exact ⟨_, (true), (by first | rfl | (simp; done) | (simp [*]; done)), H', ⟨by have := HJ3.out; have := HJ12.out; first | omega | exact Nat.le_refl _⟩, ⟨by (with_reducible repeat (first | refine blk_drewN ?_ _ | refine blk_drew ?_ | refine blk_alloc ?_ _)); refine blk_put (cs := #[.int .i64 t358, .int .i64 t359, .int .i64 0]) ?_ 2 _ rfl; (with_reducible repeat (first | refine blk_drewN ?_ _ | refine blk_drew ?_ | refine blk_alloc ?_ _)); refine blk_put (cs := #[.int .i64 t358, .int .i64 0, .int .i64 0]) ?_ 1 _ rfl; (with_reducible repeat (first | refine blk_drewN ?_ _ | refine blk_drew ?_ | refine blk_alloc ?_ _)); refine blk_put (cs := #[.int .i64 0, .int .i64 0, .int .i64 0]) ?_ 0 _ rfl; (with_reducible repeat (first | refine blk_drewN ?_ _ | refine blk_drew ?_ | refine blk_alloc ?_ _)); exact BK362.out⟩, ⟨by repeat (first | (with_reducible first | exact HB.out | apply below_alloc | apply pw_below_drewN | apply below_drew1 | refine below_set ?_ GE362.out) | exact HB.out)⟩⟩
                case rest =>
                  clear HC22
                  try clear c1
                  try clear c2
                  try clear p2
                  try clear c3
                  try clear c6
                  try clear c6b0
                  try clear p6
                  try clear c7
                  try clear c9
                  try clear c11
                  try clear c14
                  try clear c14b0
                  try clear c14b1
                  try clear c15
                  try clear c15b0
                  try clear c15b1
                  try clear c16
                  try clear c16b0
                  try clear c16b1
                  try clear c17
                  try clear c17b0
                  try clear c17b1
                  try clear c18
                  try clear c18b0
                  try clear c18b1
                  try clear c19
                  try clear c19b0
                  try clear c19b1
                  try clear c20
                  try clear c22
                  try clear c23
                  try clear c24
                  try clear c26
                  try clear c26b0
                  try clear c26b1
                  try clear c27
                  try clear c27b0
                  try clear c27b1
                  try clear c28
                  try clear c28b0
                  try clear c28b1
                  try clear c29
                  try clear c29b0
                  try clear c29b1
                  try clear hcz25_0
                  try clear hcz25_1
                  try clear hcz25_2
                  try clear hcz30_0
                  try clear hcz30_1
                  try clear hcz30_2
                  try clear hcz31_0
                  try clear hcz31_1
                  try clear hcz31_2
                  try clear hcz32_0
                  try clear hcz32_1
                  try clear hcz32_2
                  try clear hcz33_0
                  try clear hcz33_1
                  try clear hcz33_2
                  try clear hfz25_0
                  try clear hfz25_1
                  try clear hfz25_2
                  try clear hfz30_0
                  try clear hfz30_1
                  try clear hfz30_2
                  try clear hfz31_0
                  try clear hfz31_1
                  try clear hfz31_2
                  try clear hfz32_0
                  try clear hfz32_1
                  try clear hfz32_2
                  try clear hfz33_0
                  try clear hfz33_1
                  try clear hfz33_2
                  try clear p2
                  try clear p6
                  obtain ⟨kq, x111_21, rfl, HA, HJ21, BK362, HB⟩ := hcut
                  cases kq with
                  | zero => exact absurd HA.out (by simp [plenumlaw05_CivilWeeks.j2])
                  | succ kj21 =>
                    have H := HA.out
                    clear HA
                    simp only [plenumlaw05_CivilWeeks.j2] at H
                    by_cases c34 : x111_21 = true
                    · subst c34
                      have H1 : (some false) = some r := by rw [if_pos rfl] at H; exact H
                      clear H
                      have H := H1
                      clear H1
                      obtain rfl := Option.some.inj H
                      go_wp2
                      go_ret
                      exact ⟨by first | rfl | (simp [errW_none, errW_some] <;> rfl) | (simp [*, errW_none, errW_some] <;> rfl), by repeat (first | (with_reducible first | exact HB.out | apply below_alloc | apply pw_below_drewN | apply below_drew1 | refine below_set ?_ GE362.out) | exact HB.out)⟩
                    · replace c34 := Bool.eq_false_iff.mpr c34
                      subst c34
                      have H1 : (if t348 = 1 then (if t352 = t355 then (if t356 = (wrap64 (t353 + 1)) then (some true) else (if t355 = (wrap64 (t352 + 1)) then (if t356 = 1 then (some (decide (t353 ≥ 52))) else (some false)) else (some false))) else (if t355 = (wrap64 (t352 + 1)) then (if t356 = 1 then (some (decide (t353 ≥ 52))) else (some false)) else (some false))) else (if t352 = t355 then (some (t353 == t356)) else (some false))) = some r := by rw [if_neg (show ¬ (false = true) by decide)] at H; exact H
                      clear H
                      have H := H1
                      clear H1
                      by_cases c35 : t348 = 1
                      · rw [if_pos c35] at H
                        have c35b0 : (t348 == 1) = true := beq_iff_eq.mpr c35
                        have c35b1 : (t348 != 1) = false := bne_eq_false_iff_eq.mpr c35
                        clear c35
                        by_cases c36 : t352 = t355
                        · rw [if_pos c36] at H
                          have c36b0 : (t352 == t355) = true := beq_iff_eq.mpr c36
                          have c36b1 : (t352 != t355) = false := bne_eq_false_iff_eq.mpr c36
                          clear c36
                          by_cases c37 : t356 = (wrap64 (t353 + 1))
                          · rw [if_pos c37] at H
                            have c37b0 : (t356 == (wrap64 (t353 + 1))) = true := beq_iff_eq.mpr c37
                            have c37b1 : (t356 != (wrap64 (t353 + 1))) = false := bne_eq_false_iff_eq.mpr c37
                            clear c37
                            obtain rfl := Option.some.inj H
                            go_wp2
                            go_ret
                            exact ⟨by first | rfl | (simp [errW_none, errW_some] <;> rfl) | (simp [*, errW_none, errW_some] <;> rfl), by repeat (first | (with_reducible first | exact HB.out | apply below_alloc | apply pw_below_drewN | apply below_drew1 | refine below_set ?_ GE362.out) | exact HB.out)⟩
                          · rw [if_neg c37] at H
                            have c37b0 : (t356 == (wrap64 (t353 + 1))) = false := beq_eq_false_iff_ne.mpr c37
                            have c37b1 : (t356 != (wrap64 (t353 + 1))) = true := bne_iff_ne.mpr c37
                            by_cases c38 : t355 = (wrap64 (t352 + 1))
                            · rw [if_pos c38] at H
                              have c38b0 : (t355 == (wrap64 (t352 + 1))) = true := beq_iff_eq.mpr c38
                              have c38b1 : (t355 != (wrap64 (t352 + 1))) = false := bne_eq_false_iff_eq.mpr c38
                              clear c38
                              by_cases c39 : t356 = 1
                              · rw [if_pos c39] at H
                                have c39b0 : (t356 == 1) = true := beq_iff_eq.mpr c39
                                have c39b1 : (t356 != 1) = false := bne_eq_false_iff_eq.mpr c39
                                clear c39
                                obtain rfl := Option.some.inj H
                                go_wp2
                                go_ret
                                exact ⟨by first | rfl | (simp [errW_none, errW_some] <;> rfl) | (simp [*, errW_none, errW_some] <;> rfl), by repeat (first | (with_reducible first | exact HB.out | apply below_alloc | apply pw_below_drewN | apply below_drew1 | refine below_set ?_ GE362.out) | exact HB.out)⟩
                              · rw [if_neg c39] at H
                                have c39b0 : (t356 == 1) = false := beq_eq_false_iff_ne.mpr c39
                                have c39b1 : (t356 != 1) = true := bne_iff_ne.mpr c39
                                obtain rfl := Option.some.inj H
                                go_wp2
                                go_ret
                                exact ⟨by first | rfl | (simp [errW_none, errW_some] <;> rfl) | (simp [*, errW_none, errW_some] <;> rfl), by repeat (first | (with_reducible first | exact HB.out | apply below_alloc | apply pw_below_drewN | apply below_drew1 | refine below_set ?_ GE362.out) | exact HB.out)⟩
                            · rw [if_neg c38] at H
                              have c38b0 : (t355 == (wrap64 (t352 + 1))) = false := beq_eq_false_iff_ne.mpr c38
                              have c38b1 : (t355 != (wrap64 (t352 + 1))) = true := bne_iff_ne.mpr c38
                              obtain rfl := Option.some.inj H
                              go_wp2
                              go_ret
                              exact ⟨by first | rfl | (simp [errW_none, errW_some] <;> rfl) | (simp [*, errW_none, errW_some] <;> rfl), by repeat (first | (with_reducible first | exact HB.out | apply below_alloc | apply pw_below_drewN | apply below_drew1 | refine below_set ?_ GE362.out) | exact HB.out)⟩
                        · rw [if_neg c36] at H
                          have c36b0 : (t352 == t355) = false := beq_eq_false_iff_ne.mpr c36
                          have c36b1 : (t352 != t355) = true := bne_iff_ne.mpr c36
                          by_cases c40 : t355 = (wrap64 (t352 + 1))
                          · rw [if_pos c40] at H
                            have c40b0 : (t355 == (wrap64 (t352 + 1))) = true := beq_iff_eq.mpr c40
                            have c40b1 : (t355 != (wrap64 (t352 + 1))) = false := bne_eq_false_iff_eq.mpr c40
                            clear c40
                            by_cases c41 : t356 = 1
                            · rw [if_pos c41] at H
                              have c41b0 : (t356 == 1) = true := beq_iff_eq.mpr c41
                              have c41b1 : (t356 != 1) = false := bne_eq_false_iff_eq.mpr c41
                              clear c41
                              obtain rfl := Option.some.inj H
                              go_wp2
                              go_ret
                              exact ⟨by first | rfl | (simp [errW_none, errW_some] <;> rfl) | (simp [*, errW_none, errW_some] <;> rfl), by repeat (first | (with_reducible first | exact HB.out | apply below_alloc | apply pw_below_drewN | apply below_drew1 | refine below_set ?_ GE362.out) | exact HB.out)⟩
                            · rw [if_neg c41] at H
                              have c41b0 : (t356 == 1) = false := beq_eq_false_iff_ne.mpr c41
                              have c41b1 : (t356 != 1) = true := bne_iff_ne.mpr c41
                              obtain rfl := Option.some.inj H
                              go_wp2
                              go_ret
                              exact ⟨by first | rfl | (simp [errW_none, errW_some] <;> rfl) | (simp [*, errW_none, errW_some] <;> rfl), by repeat (first | (with_reducible first | exact HB.out | apply below_alloc | apply pw_below_drewN | apply below_drew1 | refine below_set ?_ GE362.out) | exact HB.out)⟩
                          · rw [if_neg c40] at H
                            have c40b0 : (t355 == (wrap64 (t352 + 1))) = false := beq_eq_false_iff_ne.mpr c40
                            have c40b1 : (t355 != (wrap64 (t352 + 1))) = true := bne_iff_ne.mpr c40
                            obtain rfl := Option.some.inj H
                            go_wp2
                            go_ret
                            exact ⟨by first | rfl | (simp [errW_none, errW_some] <;> rfl) | (simp [*, errW_none, errW_some] <;> rfl), by repeat (first | (with_reducible first | exact HB.out | apply below_alloc | apply pw_below_drewN | apply below_drew1 | refine below_set ?_ GE362.out) | exact HB.out)⟩
                      · rw [if_neg c35] at H
                        have c35b0 : (t348 == 1) = false := beq_eq_false_iff_ne.mpr c35
                        have c35b1 : (t348 != 1) = true := bne_iff_ne.mpr c35
                        by_cases c42 : t352 = t355
                        · rw [if_pos c42] at H
                          have c42b0 : (t352 == t355) = true := beq_iff_eq.mpr c42
                          have c42b1 : (t352 != t355) = false := bne_eq_false_iff_eq.mpr c42
                          clear c42
                          obtain rfl := Option.some.inj H
                          go_wp2
                          go_ret
                          exact ⟨by first | rfl | (simp [errW_none, errW_some] <;> rfl) | (simp [*, errW_none, errW_some] <;> rfl), by repeat (first | (with_reducible first | exact HB.out | apply below_alloc | apply pw_below_drewN | apply below_drew1 | refine below_set ?_ GE362.out) | exact HB.out)⟩
                        · rw [if_neg c42] at H
                          have c42b0 : (t352 == t355) = false := beq_eq_false_iff_ne.mpr c42
                          have c42b1 : (t352 != t355) = true := bne_iff_ne.mpr c42
                          obtain rfl := Option.some.inj H
                          go_wp2
                          go_ret
                          exact ⟨by first | rfl | (simp [errW_none, errW_some] <;> rfl) | (simp [*, errW_none, errW_some] <;> rfl), by repeat (first | (with_reducible first | exact HB.out | apply below_alloc | apply pw_below_drewN | apply below_drew1 | refine below_set ?_ GE362.out) | exact HB.out)⟩
  · replace c3 := Bool.eq_false_iff.mpr c3
    subst c3
    have H1 : (some false) = some r := by rw [if_neg (show ¬ (false = true) by decide)] at H; exact H
    clear H
    have H := H1
    clear H1
    obtain rfl := Option.some.inj H
    go_enter Tryd.func9, Tryd.ntmps9
    go_wp2_with (first | ((with_reducible refine gate_callee (f := 11) rfl ?_); refine goesL_ (some 17) rfl rfl Tryd.func11 (by kernel_rfl) rfl #[] rfl (by (try simp only [List.map_toArray, List.map_cons, List.map_nil]); first | done | rfl | (simp only [List.length_drop, List.length_take]; rfl)) ?_; (with_reducible refine (plenumlaw05_awake.calls k  false _ ?sideLen A2.out).mono ?_); (case sideLen => exact LenAt.below HLEN.out (by repeat (first | (with_reducible first | exact HB.out | apply below_alloc | apply pw_below_drewN | apply below_drew1 | refine below_set ?_ GE362.out) | exact HB.out))); rintro e w43 ⟨rfl, hb⟩; refine ⟨_, rfl, ?_⟩; have n0_ := Aside0.mk (below_step (by repeat (first | (with_reducible first | exact HB.out | apply below_alloc | apply pw_below_drewN | apply below_drew1) | exact HB.out)) hb); clear HB; have HB := n0_; clear n0_; (try clear hb); (try clear hb2); (try clear hk); (try clear hi)))
    go_ret
    exact ⟨by first | rfl | (simp [errW_none, errW_some] <;> rfl) | (simp [*, errW_none, errW_some] <;> rfl), by repeat (first | (with_reducible first | exact HB.out | apply below_alloc | apply pw_below_drewN | apply below_drew1) | exact HB.out)⟩

/-- THE ONE PURE STATEMENT of plenumlaw05_CivilWeeks: yours. -/
def plenumlaw05_CivilWeeks.Pure : Prop := ∀ (a0 : Int), (Lit.int .i64 a0).wf = true → ∃ k, plenumlaw05_CivilWeeks.f k a0 = some true
end Go.Proofs.YtipkgjbfannniaaDoor.Q
