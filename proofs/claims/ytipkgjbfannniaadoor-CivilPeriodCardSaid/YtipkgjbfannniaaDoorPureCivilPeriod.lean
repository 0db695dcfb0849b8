/- CivilPeriod, over numbers alone: leap years repeat after 400 years, and a year has 365 or 366 days, as Leap says. -/
import Derived.Test.YtipkgjbfannniaaDoorMA
import Derived.Test.YtipkgjbfannniaaDoorQx18
set_option linter.unusedVariables false
namespace Go.Proofs.YtipkgjbfannniaaDoor.Pure
open Go.RowKit Go.Proofs.YtipkgjbfannniaaDoor.Q Go.Proofs.YtipkgjbfannniaaDoor.M Go.Proofs.YtipkgjbfannniaaDoorW.PrintWords Go.Proofs.YtipkgjbfannniaaDoorW.PrintLast

theorem lp_400 (y : Int) : lp (y + 400) = lp y := by
  unfold lp
  by_cases h1 : y % 4 = 0 <;> by_cases h2 : y % 100 = 0 <;> by_cases h3 : y % 400 = 0 <;> (split <;> split <;> omega)
theorem period_l0 (y : Int) (h1 : -1000000 ≤ y) (h2 : y ≤ 1000000) : ∀ (n : Nat) (m : Int) (k : Nat), 13 - m = n → 1 ≤ m → n + 20 < k → plenumlaw05_CivilPeriod.l0 k y (C y m) m = some true := by
  have ly := lp_01 y
  intro n
  induction n with
  | zero =>
    intro m k hm h0 hk
    obtain ⟨k, rfl⟩ : ∃ q, k = q + 1 := ⟨k - 1, by omega⟩
    obtain rfl : m = 13 := by omega
    simp only [plenumlaw05_CivilPeriod.l0]
    rw [if_neg (by omega), leap_f, w64 (x := y + 400) (by omega) (by omega), leap_f, lp_400, C_13]
    simp only [Option.bind_some, bne_self_eq_false]
    rw [if_neg (by decide)]
    have last : ∀ k, 16 ≤ k → plenumlaw05_CivilPeriod.j2 k y (365 + lp y) false = some true := by
      intro k hk
      obtain ⟨k, rfl⟩ : ∃ q, k = q + 1 := ⟨k - 1, by omega⟩
      simp only [plenumlaw05_CivilPeriod.j2]
      rw [if_neg (by decide)]
      by_cases hy : 2000 ≤ y ∧ y ≤ 2199
      · obtain ⟨y1, y2⟩ := hy
        have d1 : dim y 1 = 31 := by simp [dim]
        have d12 : dim y 12 = 31 := by simp [dim]
        have c12 : C y 12 = 334 + lp y := by simp [C]
        have bb := B_bd (y := y) (by omega) (by omega)
        rw [day_ok (by omega) (chk_of y1 y2 (by omega) (by omega)), day_ok (by omega) (chk_of y1 y2 (by omega) (by omega)), C_1, c12]
        simp only [Option.bind_some, if_true]
        rw [w64 (by omega) (by omega), w64 (by omega) (by omega)]
        have e : B y + (334 + lp y) + 31 - 1 - (B y + 0 + 1 - 1) = 365 + lp y - 1 := by omega
        rw [e]
        simp
      · have e1 : ∀ m d, chk y m d = 1 := by
          intro m d
          unfold chk
          (repeat' split) <;> omega
        rw [day_no (by omega) (by rw [e1]; decide), day_no (by omega) (by rw [e1]; decide), e1, e1]
        simp
    rcases ly with h | h
    · rw [h]
      have e : ((365 + 0 : Int) == 366) = false := rfl
      simp only [e, show decide ((0 : Int) = 1) = false from rfl, bne_self_eq_false]
      rw [if_neg (by decide), if_pos (by omega)]
      have := last k (by omega)
      rwa [h] at this
    · rw [h]
      have e : ((365 + 1 : Int) == 366) = true := rfl
      rw [e, if_neg (by decide), if_neg (by omega)]
      have := last k (by omega)
      rwa [h] at this
  | succ n ih =>
    intro m k hm h0 hk
    obtain ⟨k, rfl⟩ : ∃ q, k = q + 1 := ⟨k - 1, by omega⟩
    have cb := C_bd (y := y) (m := m) (by omega)
    have db := dim_bd y m
    simp only [plenumlaw05_CivilPeriod.l0]
    rw [if_pos (by omega), daysIn_f]
    simp only [Option.bind_some]
    rw [w64 (by omega) (by omega), w64 (by omega) (by omega), ← C_succ (by omega) (by omega)]
    exact ih (m + 1) k (by omega) (by omega) (by omega)
theorem CivilPeriod : plenumlaw05_CivilPeriod.Pure := by
  intro y _
  refine ⟨600, ?_⟩
  unfold plenumlaw05_CivilPeriod.f
  rw [awake_f (by omega)]
  simp only [Option.bind_some, if_true]
  by_cases h0 : y < -1000000
  · rw [if_pos h0]
    simp [plenumlaw05_CivilPeriod.j0]
  rw [if_neg h0]
  by_cases h9 : y > 1000000
  · have e : decide (y > 1000000) = true := by simp; omega
    rw [e]
    simp [plenumlaw05_CivilPeriod.j0]
  have e : decide (y > 1000000) = false := by simp; omega
  rw [e]
  simp only [plenumlaw05_CivilPeriod.j0]
  rw [if_neg (by decide)]
  have := period_l0 y (by omega) (by omega) 12 1 599 (by omega) (by omega) (by omega)
  rwa [C_1] at this
end Go.Proofs.YtipkgjbfannniaaDoor.Pure
