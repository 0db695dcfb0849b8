/- What Leap, DaysIn and Check of the reference come to. -/
import Derived.Test.YtipkgjbfannniaaDoorMA
import Derived.Test.YtipkgjbfannniaaDoorQx7
set_option linter.unusedVariables false
namespace Go.Proofs.YtipkgjbfannniaaDoor.M
open Go.RowKit Go.Proofs.YtipkgjbfannniaaDoor.Q Go.Proofs.YtipkgjbfannniaaDoorW.PrintWords Go.Proofs.YtipkgjbfannniaaDoorW.PrintLast

theorem rleap_f (y : Int) : plenumref05_Leap.f y = some (decide (lp y = 1)) := leap_f y
theorem rdaysIn_f (k : Nat) (y m : Int) : plenumref05_DaysIn.f (k + 1) y m = some (dim y m) := by
  have hl := lp_01 y
  unfold plenumref05_DaysIn.f dim
  by_cases h4 : m = 4
  · subst h4; simp [plenumref05_DaysIn.j0]
  by_cases h6 : m = 6
  · subst h6; simp [plenumref05_DaysIn.j0]
  by_cases h9 : m = 9
  · subst h9; simp [plenumref05_DaysIn.j0]
  by_cases h11 : m = 11
  · subst h11; simp [plenumref05_DaysIn.j0]
  rw [if_neg h4, if_neg h6, if_neg h9]
  have e : (m == 11) = false := by simpa using h11
  rw [e]
  simp only [plenumref05_DaysIn.j0]
  by_cases h2 : m = 2
  · subst h2
    rw [rleap_f]
    rcases hl with h | h <;> simp [h]
  by_cases h0 : m < 1
  · simp [h2, h0]
  by_cases h12 : m > 12
  · simp [h2, h0, h12]
  · have : ¬ (12 < m) := by omega
    simp [h2, h0, this, h4, h6, h9, h11]
theorem rdaysIn_f' {k : Nat} (hk : 1 ≤ k) (y m : Int) : plenumref05_DaysIn.f k y m = some (dim y m) := by
  obtain ⟨k, rfl⟩ : ∃ q, k = q + 1 := ⟨k - 1, by omega⟩
  exact rdaysIn_f k y m
theorem rcheck_f {k : Nat} (hk : 2 ≤ k) (y m d : Int) : plenumref05_Check.f k y m d = some (chk y m d) := by
  obtain ⟨k, rfl⟩ : ∃ q, k = q + 2 := ⟨k - 2, by omega⟩
  unfold plenumref05_Check.f chk
  by_cases h1 : y < 2000
  · rw [if_pos h1, if_pos h1]; simp [plenumref05_Check.j0]
  rw [if_neg h1, if_neg h1]
  by_cases h2 : 2199 < y
  · rw [if_pos h2]; simp [plenumref05_Check.j0, h2]
  rw [if_neg h2]
  have e : decide (y > 2199) = false := by simp; omega
  rw [e]
  simp only [plenumref05_Check.j0, rdaysIn_f, Option.bind_some]
  by_cases h3 : d < 1
  · simp [h3]
  by_cases h4 : d > dim y m
  · simp [h3, h4]
  · simp [h3, h4]
end Go.Proofs.YtipkgjbfannniaaDoor.M
