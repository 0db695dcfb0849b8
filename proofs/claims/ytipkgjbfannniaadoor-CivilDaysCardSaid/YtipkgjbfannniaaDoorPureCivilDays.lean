/- CivilDays, over numbers alone: for all numbers Of, Weekday and Week return the specified results, or ErrInvalid. -/
import Derived.Test.YtipkgjbfannniaaDoorMB
import Derived.Test.YtipkgjbfannniaaDoorQx10
set_option linter.unusedVariables false
namespace Go.Proofs.YtipkgjbfannniaaDoor.Pure
open Go.RowKit Go.Proofs.YtipkgjbfannniaaDoor.Q Go.Proofs.YtipkgjbfannniaaDoor.M Go.Proofs.YtipkgjbfannniaaDoorW.PrintWords Go.Proofs.YtipkgjbfannniaaDoorW.PrintLast

theorem CivilDays : plenumlaw05_CivilDays.Pure := by
  intro day _
  refine ⟨600, ?_⟩
  unfold plenumlaw05_CivilDays.f
  rw [awake_f (by omega)]
  simp only [Option.bind_some, if_true]
  by_cases h : 0 ≤ day ∧ day ≤ 73048
  · obtain ⟨h1, h2⟩ := h
    obtain ⟨y, m, d, q1, q2, hD, he⟩ := Of_ok h1 h2
    obtain ⟨wy, p1, p2, hY, hw⟩ := Week_ok h1 h2
    rw [he 600 (by omega), Weekday_ok h1 h2, hw 600 (by omega)]
    simp only [Option.bind_some]
    rw [if_neg (by omega)]
    have e : decide (day > 73048) = false := by simp; omega
    rw [e]
    simp only [plenumlaw05_CivilDays.j0]
    rw [if_neg (by decide), rweek_f (by omega) h1 h2 p1 p2 hY]
    simp only [Option.bind_some, if_true]
    rw [rof_f (by omega) hD q1 q2]
    simp only [Option.bind_some]
    rw [rweekday_f h1 (by omega)]
    simp
  · have h' : day < 0 ∨ 73048 < day := by omega
    rw [Of_no _ h', Weekday_no h', Week_no _ h']
    simp only [Option.bind_some]
    by_cases h0 : day < 0
    · rw [if_pos h0]
      simp [plenumlaw05_CivilDays.j0]
    · rw [if_neg h0]
      have e : decide (day > 73048) = true := by simp; omega
      rw [e]
      simp [plenumlaw05_CivilDays.j0]
end Go.Proofs.YtipkgjbfannniaaDoor.Pure
