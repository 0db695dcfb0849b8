/- CivilMonths, over numbers alone: for all dates and numbers, Months returns the specified date or error. -/
import Derived.Test.YtipkgjbfannniaaDoorMB
import Derived.Test.YtipkgjbfannniaaDoorQx11
set_option linter.unusedVariables false
namespace Go.Proofs.YtipkgjbfannniaaDoor.Pure
open Go.RowKit Go.Proofs.YtipkgjbfannniaaDoor.Q Go.Proofs.YtipkgjbfannniaaDoor.M Go.Proofs.YtipkgjbfannniaaDoorW.PrintWords Go.Proofs.YtipkgjbfannniaaDoorW.PrintLast

theorem check_f2 {k : Nat} (hk : 1 ≤ k) (y m d : Int) : civil_Check.f k y m d = some (chk y m d) := by
  obtain ⟨k, rfl⟩ : ∃ q, k = q + 1 := ⟨k - 1, by omega⟩
  exact check_f k y m d
theorem months_ok {k : Nat} (hk : 2 ≤ k) {y m d n : Int} (hc : chk y m d = 0) (h1 : 24000 ≤ 12 * y + m - 1 + n) (h2 : 12 * y + m - 1 + n ≤ 26399) :
    civil_Months.f k y m d n = some ((12 * y + m - 1 + n) / 12, (12 * y + m - 1 + n) % 12 + 1, mn d (dim ((12 * y + m - 1 + n) / 12) ((12 * y + m - 1 + n) % 12 + 1)), 0) := by
  obtain ⟨k, rfl⟩ : ∃ q, k = q + 1 := ⟨k - 1, by omega⟩
  obtain ⟨q1, q2, q3, q4, q5, q6⟩ := chk_ok hc
  unfold civil_Months.f
  rw [check_f2 (by omega), hc]
  simp only [Option.bind_some, if_true]
  have e : decide (n > 2400) = false := by simp; omega
  rw [if_neg (by omega), e]
  simp only [civil_Months.j0]
  rw [w64 (x := 12 * y) (by omega) (by omega), w64 (x := 12 * y + m) (by omega) (by omega), w64 (x := 12 * y + m - 1) (by omega) (by omega), w64 (x := 12 * y + m - 1 + n) (by omega) (by omega),
    tdv _ (by omega : 0 ≤ 12 * y + m - 1 + n), tmd _ (by omega : 0 ≤ 12 * y + m - 1 + n), w64 (x := (12 * y + m - 1 + n) / 12) (by omega) (by omega), w64 (x := (12 * y + m - 1 + n) % 12 + 1) (by omega) (by omega)]
  rw [if_neg (by decide), if_neg (by omega), if_neg (by omega), daysIn_f]
  rfl
theorem months_no {k : Nat} (hk : 2 ≤ k) {y m d n : Int} (hc : chk y m d = 0) (h : ¬ (24000 ≤ 12 * y + m - 1 + n ∧ 12 * y + m - 1 + n ≤ 26399)) :
    civil_Months.f k y m d n = some (0, 0, 0, 1) := by
  obtain ⟨k, rfl⟩ : ∃ q, k = q + 1 := ⟨k - 1, by omega⟩
  obtain ⟨q1, q2, q3, q4, q5, q6⟩ := chk_ok hc
  unfold civil_Months.f
  rw [check_f2 (by omega), hc]
  simp only [Option.bind_some, if_true]
  by_cases h1 : n < -2400
  · rw [if_pos h1]
    simp [civil_Months.j0]
  rw [if_neg h1]
  by_cases h2 : n > 2400
  · have e : decide (n > 2400) = true := by simp; omega
    rw [e]
    simp [civil_Months.j0]
  have e : decide (n > 2400) = false := by simp; omega
  rw [e]
  simp only [civil_Months.j0]
  rw [w64 (x := 12 * y) (by omega) (by omega), w64 (x := 12 * y + m) (by omega) (by omega), w64 (x := 12 * y + m - 1) (by omega) (by omega), w64 (x := 12 * y + m - 1 + n) (by omega) (by omega),
    tdv _ (by omega : 0 ≤ 12 * y + m - 1 + n), w64 (x := (12 * y + m - 1 + n) / 12) (by omega) (by omega)]
  rw [if_neg (by decide)]
  by_cases h3 : (12 * y + m - 1 + n) / 12 < 2000
  · rw [if_pos h3]
  · rw [if_neg h3, if_pos (by omega)]
theorem rmonths_ok {k : Nat} (hk : 3 ≤ k) {y m d n : Int} (hc : chk y m d = 0) (h1 : 24000 ≤ 12 * y + m - 1 + n) (h2 : 12 * y + m - 1 + n ≤ 26399) :
    plenumref05_Months.f k y m d n = some ((12 * y + m - 1 + n) / 12, (12 * y + m - 1 + n) % 12 + 1, mn d (dim ((12 * y + m - 1 + n) / 12) ((12 * y + m - 1 + n) % 12 + 1)), true) := by
  obtain ⟨k, rfl⟩ : ∃ q, k = q + 1 := ⟨k - 1, by omega⟩
  obtain ⟨q1, q2, q3, q4, q5, q6⟩ := chk_ok hc
  unfold plenumref05_Months.f
  have e : decide (n > 10000) = false := by simp; omega
  rw [if_neg (by omega), e]
  simp only [plenumref05_Months.j0]
  rw [Int.mul_comm y 12]
  rw [w64 (x := 12 * y) (by omega) (by omega), w64 (x := 12 * y + m) (by omega) (by omega), w64 (x := 12 * y + m - 1) (by omega) (by omega), w64 (x := 12 * y + m - 1 + n) (by omega) (by omega),
    tdv _ (by omega : 0 ≤ 12 * y + m - 1 + n), tmd _ (by omega : 0 ≤ 12 * y + m - 1 + n), w64 (x := (12 * y + m - 1 + n) / 12) (by omega) (by omega), w64 (x := (12 * y + m - 1 + n) % 12 + 1) (by omega) (by omega)]
  rw [if_neg (by decide), if_neg (by omega), if_neg (by omega), rdaysIn_f' (by omega)]
  rfl
theorem rmonths_no {k : Nat} (hk : 3 ≤ k) {y m d n : Int} (hc : chk y m d = 0) (h : ¬ (24000 ≤ 12 * y + m - 1 + n ∧ 12 * y + m - 1 + n ≤ 26399)) :
    plenumref05_Months.f k y m d n = some (0, 0, 0, false) := by
  obtain ⟨k, rfl⟩ : ∃ q, k = q + 1 := ⟨k - 1, by omega⟩
  obtain ⟨q1, q2, q3, q4, q5, q6⟩ := chk_ok hc
  unfold plenumref05_Months.f
  by_cases h1 : n < -10000
  · rw [if_pos h1]
    simp [plenumref05_Months.j0]
  rw [if_neg h1]
  by_cases h2 : n > 10000
  · have e : decide (n > 10000) = true := by simp; omega
    rw [e]
    simp [plenumref05_Months.j0]
  have e : decide (n > 10000) = false := by simp; omega
  rw [e]
  simp only [plenumref05_Months.j0]
  rw [Int.mul_comm y 12]
  rw [w64 (x := 12 * y) (by omega) (by omega), w64 (x := 12 * y + m) (by omega) (by omega), w64 (x := 12 * y + m - 1) (by omega) (by omega), w64 (x := 12 * y + m - 1 + n) (by omega) (by omega)]
  rw [if_neg (by decide)]
  by_cases h3 : 12 * y + m - 1 + n < 24000
  · rw [if_pos h3]
  · rw [if_neg h3, tdv _ (by omega : 0 ≤ 12 * y + m - 1 + n), w64 (x := (12 * y + m - 1 + n) / 12) (by omega) (by omega), if_pos (by omega)]
theorem months_err {k : Nat} (hk : 1 ≤ k) {y m d n : Int} (hc : chk y m d ≠ 0) : civil_Months.f k y m d n = some (0, 0, 0, chk y m d) := by
  unfold civil_Months.f
  rw [check_f2 hk]
  simp only [Option.bind_some]
  rw [if_neg hc]
theorem CivilMonths (y m d n : Int) (_ : (Lit.int .i64 y).wf = true) (_ : (Lit.int .i64 m).wf = true) (_ : (Lit.int .i64 d).wf = true) (_ : (Lit.int .i64 n).wf = true) : ∃ k, plenumlaw05_CivilMonths.f k y m d n = some true := by
  refine ⟨600, ?_⟩
  unfold plenumlaw05_CivilMonths.f
  rw [awake_f (by omega)]
  simp only [Option.bind_some, if_true]
  by_cases hc : chk y m d = 0
  · by_cases h : 24000 ≤ 12 * y + m - 1 + n ∧ 12 * y + m - 1 + n ≤ 26399
    · rw [months_ok (by omega) hc h.1 h.2, rcheck_f (by omega), hc, rmonths_ok (by omega) hc h.1 h.2]
      simp
    · rw [months_no (by omega) hc h, rcheck_f (by omega), hc, rmonths_no (by omega) hc h]
      simp
  · rw [months_err (by omega) hc, rcheck_f (by omega)]
    simp [hc]
end Go.Proofs.YtipkgjbfannniaaDoor.Pure
