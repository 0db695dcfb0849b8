/- CivilWeeks, over numbers alone: a day and the next one have the same week, unless the next one is a Monday; then its number is one more, or 1 and the year one more; weekdays repeat every 7 days, and 4 January belongs to the first week. -/
import Derived.Test.YtipkgjbfannniaaDoorMA
import Derived.Test.YtipkgjbfannniaaDoorQx17
set_option linter.unusedVariables false
namespace Go.Proofs.YtipkgjbfannniaaDoor.Pure
open Go.RowKit Go.Proofs.YtipkgjbfannniaaDoor.Q Go.Proofs.YtipkgjbfannniaaDoor.M Go.Proofs.YtipkgjbfannniaaDoorW.PrintWords Go.Proofs.YtipkgjbfannniaaDoorW.PrintLast

theorem CivilWeeks : plenumlaw05_CivilWeeks.Pure := by
  intro day _
  refine ⟨600, ?_⟩
  unfold plenumlaw05_CivilWeeks.f
  rw [awake_f (by omega)]
  simp only [Option.bind_some, if_true]
  by_cases h0 : day < 0
  · rw [if_pos h0]
    simp [plenumlaw05_CivilWeeks.j0]
  rw [if_neg h0]
  by_cases h9 : day > 73041
  · have e : decide (day > 73041) = true := by simp; omega
    rw [e]
    simp [plenumlaw05_CivilWeeks.j0]
  have e : decide (day > 73041) = false := by simp; omega
  rw [e]
  simp only [plenumlaw05_CivilWeeks.j0]
  rw [if_neg (by decide), w64 (x := day + 1) (by omega) (by omega), w64 (x := day + 7) (by omega) (by omega), Weekday_ok (by omega) (by omega), Weekday_ok (by omega) (by omega), Weekday_ok (by omega) (by omega)]
  obtain ⟨y, a1, a2, ⟨yl, yu⟩, hw⟩ := Week_ok (day := day) (by omega) (by omega)
  obtain ⟨z, b1, b2, ⟨zl, zu⟩, hz⟩ := Week_ok (day := day + 1) (by omega) (by omega)
  rw [hw _ (by omega), hz _ (by omega)]
  simp only [Option.bind_some, if_true]
  have w7 : wd day = wd (day + 7) := by unfold wd; omega
  have w1 : wd (day + 1) = wd day % 7 + 1 := by unfold wd; omega
  have wb := wd_bd day
  have yb := B_bd a1 a2
  have zb := B_bd b1 b2
  rw [if_pos w7, tmd _ (by omega : 0 ≤ wd day), w64 (by omega) (by omega), ← w1]
  simp only [plenumlaw05_CivilWeeks.j1, bne_self_eq_false]
  rw [if_neg (by decide)]
  obtain ⟨oy, om, od, p1, p2, hD, ho⟩ := Of_ok (day := day) (by omega) (by omega)
  rw [ho _ (by omega)]
  simp only [Option.bind_some, if_true]
  -- what is left, behind the look at 4 January
  have rest : ∀ k, plenumlaw05_CivilWeeks.j2 (k + 1) (wd (day + 1)) y ((thu day - B y) / 7 + 1) z ((thu (day + 1) - B z) / 7 + 1) false = some true := by
    intro k
    simp only [plenumlaw05_CivilWeeks.j2]
    rw [if_neg (by decide)]
    by_cases hb : wd (day + 1) = 1
    · rw [if_pos hb]
      have et : thu (day + 1) = thu day + 7 := by unfold thu; unfold wd at *; omega
      rw [et] at zl zu ⊢
      have sy := B_succ y
      have ly := lp_01 y
      by_cases hz2 : B (y + 1) ≤ thu day + 7
      · have hzy : z = y + 1 := InYear.uniq ⟨zl, zu⟩ ⟨hz2, by have := B_succ (y + 1); have := lp_01 (y + 1); omega⟩
        subst hzy
        rw [if_neg (by omega), if_pos (by rw [w64 (by omega) (by omega)]), if_pos (by omega)]
        congr 1
        simp
        omega
      · have hzy : z = y := InYear.uniq ⟨zl, zu⟩ ⟨by omega, by omega⟩
        subst hzy
        rw [if_pos rfl, if_pos (by rw [w64 (by omega) (by omega)]; omega)]
    · rw [if_neg hb]
      have et : thu (day + 1) = thu day := by unfold thu; unfold wd at *; omega
      rw [et] at zl zu ⊢
      have hzy : z = y := InYear.uniq ⟨zl, zu⟩ ⟨yl, yu⟩
      subst hzy
      simp
  by_cases hm : om = 1
  · rw [if_pos hm]
    by_cases hd : od = 4
    · rw [if_pos hd]
      subst hm hd
      obtain ⟨_, _, _, _, h5⟩ := hD
      rw [C_1] at h5
      have hin : InYear (thu day) oy := ⟨by unfold thu; omega, by have := B_succ oy; have := lp_01 oy; unfold thu; omega⟩
      have : y = oy := InYear.uniq ⟨yl, yu⟩ hin
      subst this
      rw [if_pos rfl]
      have e1 : (thu day - B y) / 7 + 1 = 1 := by unfold thu; omega
      have e2 : ((thu day - B y) / 7 + 1 != 1) = false := by rw [e1]; rfl
      rw [e2]
      exact rest _
    · rw [if_neg hd]
      exact rest _
  · rw [if_neg hm]
    exact rest _
end Go.Proofs.YtipkgjbfannniaaDoor.Pure
