-- Written by pp.py (a program of this session, over the kit's print.py) out of the translation. Not trusted: Lean checks it.
import Derived.Test.YtipkgjbfannniaaDoorQx0
import Derived.Test.YtipkgjbfannniaaDoorQx2
namespace Go.Proofs.YtipkgjbfannniaaDoor.Q
open Go.RowKit Go.Proofs.YtipkgjbfannniaaDoorW.PrintWords Go.Proofs.YtipkgjbfannniaaDoorW.PrintLast Go.Proofs.YtipkgjbfannniaaDoorW.PrintMore
attribute [local go_sem] max2_int min2_int max_two min_two max_three min_three max_four min_four   -- for this text's walks alone
attribute [local go_sem] pp_mod256 pp_mod256_w
set_option linter.unusedVariables false
set_option linter.unusedSimpArgs false

/-! ### civil_At: function 30 -/
def civil_At.f (a0 : Int) (a1 : Int) : Option (Int × Int) := (civil_known.f a0).bind fun t138 => (if t138 = 0 then (if a1 < 0 then (some (0, 6)) else (if a1 ≥ 1440 then (some (0, 6)) else (some (wrap64 ((wrap64 (a0 * 86400)) + (wrap64 (a1 * 60))), 0)))) else (some (0, t138)))
set_option maxHeartbeats 8000000 in
set_option maxRecDepth 100000 in
theorem civil_At.calls (a0 : Int) (a1 : Int) (r1 : Int) (r2 : Int) (w : World) (h : civil_At.f a0 a1 = some (r1, r2)) :
    Calls Tryd.prog 30 #[.int .i64 a0, .int .i64 a1] w fun e w' => e = .returned (.tuple #[.int .i64 r1, .int .i64 r2]) ∧ Drawn0 w w' := by
  have H : ((civil_known.f a0).bind fun t138 => (if t138 = 0 then (if a1 < 0 then (some (0, 6)) else (if a1 ≥ 1440 then (some (0, 6)) else (some (wrap64 ((wrap64 (a0 * 86400)) + (wrap64 (a1 * 60))), 0)))) else (some (0, t138)))) = some (r1, r2) := h
  clear h
  replace H := Option.bind_eq_some_iff.mp H
  obtain ⟨t138, A30, H⟩ := H
  replace H : (if t138 = 0 then (if a1 < 0 then (some (0, 6)) else (if a1 ≥ 1440 then (some (0, 6)) else (some (wrap64 ((wrap64 (a0 * 86400)) + (wrap64 (a1 * 60))), 0)))) else (some (0, t138))) = some (r1, r2) := H
  have A3 := Aside0.mk A30
  clear A30
  by_cases c4 : t138 = 0
  · rw [if_pos c4] at H
    have c4b0 : (t138 == 0) = true := beq_iff_eq.mpr c4
    have c4b1 : (t138 != 0) = false := bne_eq_false_iff_eq.mpr c4
    clear c4
    by_cases c5 : a1 < 0
    · rw [if_pos c5] at H
      have c5b0 : decide (a1 < 0) = true := decide_eq_true c5
      clear c5
      simp only [Option.some.injEq, Prod.mk.injEq] at H
      obtain ⟨rfl, rfl⟩ := H
      go_enter Tryd.func30, Tryd.ntmps30
      go_wp2_with (first | ((with_reducible refine gate_callee (f := 41) rfl ?_); refine goesL_ (some 8) rfl rfl Tryd.func41 (by kernel_rfl) rfl #[.int .i64 a0] rfl (by (try simp only [List.map_toArray, List.map_cons, List.map_nil]); first | done | rfl | (simp only [List.length_drop, List.length_take]; rfl)) ?_; (with_reducible refine (civil_known.calls a0 t138 _ A3.out).mono ?_); rintro e w' ⟨rfl, ⟨nd, rfl⟩⟩; refine ⟨_, rfl, ?_⟩))
      go_ret2
      exact ⟨by first | rfl | (simp; done) | (simp [*]; done), by repeat (first | exact Drawn0.refl _ | apply Drawn0.step)⟩
    · rw [if_neg c5] at H
      have c5b0 : decide (a1 < 0) = false := decide_eq_false c5
      clear c5
      by_cases c6 : a1 ≥ 1440
      · rw [if_pos c6] at H
        have c6b0 : decide (1440 ≤ a1) = true := decide_eq_true c6
        clear c6
        simp only [Option.some.injEq, Prod.mk.injEq] at H
        obtain ⟨rfl, rfl⟩ := H
        go_enter Tryd.func30, Tryd.ntmps30
        go_wp2_with (first | ((with_reducible refine gate_callee (f := 41) rfl ?_); refine goesL_ (some 8) rfl rfl Tryd.func41 (by kernel_rfl) rfl #[.int .i64 a0] rfl (by (try simp only [List.map_toArray, List.map_cons, List.map_nil]); first | done | rfl | (simp only [List.length_drop, List.length_take]; rfl)) ?_; (with_reducible refine (civil_known.calls a0 t138 _ A3.out).mono ?_); rintro e w' ⟨rfl, ⟨nd, rfl⟩⟩; refine ⟨_, rfl, ?_⟩))
        go_ret2
        exact ⟨by first | rfl | (simp; done) | (simp [*]; done), by repeat (first | exact Drawn0.refl _ | apply Drawn0.step)⟩
      · rw [if_neg c6] at H
        have c6b0 : decide (1440 ≤ a1) = false := decide_eq_false c6
        clear c6
        simp only [Option.some.injEq, Prod.mk.injEq] at H
        obtain ⟨rfl, rfl⟩ := H
        go_enter Tryd.func30, Tryd.ntmps30
        go_wp2_with (first | ((with_reducible refine gate_callee (f := 41) rfl ?_); refine goesL_ (some 8) rfl rfl Tryd.func41 (by kernel_rfl) rfl #[.int .i64 a0] rfl (by (try simp only [List.map_toArray, List.map_cons, List.map_nil]); first | done | rfl | (simp only [List.length_drop, List.length_take]; rfl)) ?_; (with_reducible refine (civil_known.calls a0 t138 _ A3.out).mono ?_); rintro e w' ⟨rfl, ⟨nd, rfl⟩⟩; refine ⟨_, rfl, ?_⟩))
        go_ret2
        exact ⟨by first | rfl | (simp; done) | (simp [*]; done), by repeat (first | exact Drawn0.refl _ | apply Drawn0.step)⟩
  · rw [if_neg c4] at H
    have c4b0 : (t138 == 0) = false := beq_eq_false_iff_ne.mpr c4
    have c4b1 : (t138 != 0) = true := bne_iff_ne.mpr c4
    simp only [Option.some.injEq, Prod.mk.injEq] at H
    obtain ⟨rfl, rfl⟩ := H
    go_enter Tryd.func30, Tryd.ntmps30
    go_wp2_with (first | ((with_reducible refine gate_callee (f := 41) rfl ?_); refine goesL_ (some 8) rfl rfl Tryd.func41 (by kernel_rfl) rfl #[.int .i64 a0] rfl (by (try simp only [List.map_toArray, List.map_cons, List.map_nil]); first | done | rfl | (simp only [List.length_drop, List.length_take]; rfl)) ?_; (with_reducible refine (civil_known.calls a0 t138 _ A3.out).mono ?_); rintro e w' ⟨rfl, ⟨nd, rfl⟩⟩; refine ⟨_, rfl, ?_⟩))
    go_ret2
    exact ⟨by first | rfl | (simp; done) | (simp [*]; done), by repeat (first | exact Drawn0.refl _ | apply Drawn0.step)⟩

/-! ### civil_Split: function 31 -/
def civil_Split.f (a0 : Int) : Option (Int × Int × Int × Int) := if a0 < 0 then (some (0, 0, 0, 1)) else (if a0 > 6311433599 then (some (0, 0, 0, 1)) else (some (wrap64 (Int.tdiv a0 86400), wrap64 (Int.tdiv (Int.tmod a0 86400) 60), Int.tmod a0 60, 0)))
set_option maxHeartbeats 8000000 in
set_option maxRecDepth 100000 in
theorem civil_Split.calls (a0 : Int) (r1 : Int) (r2 : Int) (r3 : Int) (r4 : Int) (w : World) (h : civil_Split.f a0 = some (r1, r2, r3, r4)) :
    Calls Tryd.prog 31 #[.int .i64 a0] w fun e w' => e = .returned (.tuple #[.int .i64 r1, .int .i64 r2, .int .i64 r3, .int .i64 r4]) ∧ Drawn0 w w' := by
  have H : (if a0 < 0 then (some (0, 0, 0, 1)) else (if a0 > 6311433599 then (some (0, 0, 0, 1)) else (some (wrap64 (Int.tdiv a0 86400), wrap64 (Int.tdiv (Int.tmod a0 86400) 60), Int.tmod a0 60, 0)))) = some (r1, r2, r3, r4) := h
  clear h
  by_cases c2 : a0 < 0
  · rw [if_pos c2] at H
    have c2b0 : decide (a0 < 0) = true := decide_eq_true c2
    clear c2
    simp only [Option.some.injEq, Prod.mk.injEq] at H
    obtain ⟨rfl, rfl, rfl, rfl⟩ := H
    go_enter Tryd.func31, Tryd.ntmps31
    go_wp2
    refine bodyPost_ret (results_list (rs := [.tmp 2, .tmp 3, .tmp 4, .tmp 5]) rfl (by simp) (.tmp (.tmp (.tmp (.tmp .nil))))) rfl ?_
    exact ⟨by first | rfl | (simp; done) | (simp [*]; done), by repeat (first | exact Drawn0.refl _ | apply Drawn0.step)⟩
  · rw [if_neg c2] at H
    have c2b0 : decide (a0 < 0) = false := decide_eq_false c2
    clear c2
    by_cases c3 : a0 > 6311433599
    · rw [if_pos c3] at H
      have c3b0 : decide (6311433599 < a0) = true := decide_eq_true c3
      clear c3
      simp only [Option.some.injEq, Prod.mk.injEq] at H
      obtain ⟨rfl, rfl, rfl, rfl⟩ := H
      go_enter Tryd.func31, Tryd.ntmps31
      go_wp2
      refine bodyPost_ret (results_list (rs := [.tmp 2, .tmp 3, .tmp 4, .tmp 5]) rfl (by simp) (.tmp (.tmp (.tmp (.tmp .nil))))) rfl ?_
      exact ⟨by first | rfl | (simp; done) | (simp [*]; done), by repeat (first | exact Drawn0.refl _ | apply Drawn0.step)⟩
    · rw [if_neg c3] at H
      have c3b0 : decide (6311433599 < a0) = false := decide_eq_false c3
      clear c3
      simp only [Option.some.injEq, Prod.mk.injEq] at H
      obtain ⟨rfl, rfl, rfl, rfl⟩ := H
      go_enter Tryd.func31, Tryd.ntmps31
      go_wp2
      refine bodyPost_ret (results_list (rs := [.tmp 2, .tmp 3, .tmp 4, .tmp 5]) rfl (by simp) (.tmp (.tmp (.tmp (.tmp .nil))))) rfl ?_
      exact ⟨by first | rfl | (simp; done) | (simp [*]; done), by repeat (first | exact Drawn0.refl _ | apply Drawn0.step)⟩

end Go.Proofs.YtipkgjbfannniaaDoor.Q
