/- CivilInstants, over numbers alone: for all numbers At and Split return the specified results and errors, and each is the inverse of the other one. -/
import Derived.Test.YtipkgjbfannniaaDoorMA
import Derived.Test.YtipkgjbfannniaaDoorQx12
set_option linter.unusedVariables false
namespace Go.Proofs.YtipkgjbfannniaaDoor.Pure
open Go.RowKit Go.Proofs.YtipkgjbfannniaaDoor.Q Go.Proofs.YtipkgjbfannniaaDoor.M Go.Proofs.YtipkgjbfannniaaDoorW.PrintWords Go.Proofs.YtipkgjbfannniaaDoorW.PrintLast

theorem at_ok {d m : Int} (h1 : 0 ≤ d) (h2 : d ≤ 73048) (h3 : 0 ≤ m) (h4 : m < 1440) : civil_At.f d m = some (d * 86400 + m * 60, 0) := by
  unfold civil_At.f
  rw [known_f, if_pos ⟨h1, h2⟩]
  simp only [Option.bind_some, if_true]
  rw [if_neg (by omega), if_neg (by omega), w64 (x := d * 86400) (by omega) (by omega), w64 (x := m * 60) (by omega) (by omega), w64 (by omega) (by omega)]
theorem CivilInstants : plenumlaw05_CivilInstants.Pure := by
  intro day minute t _ _ _
  refine ⟨600, ?_⟩
  -- the second half
  have two : ∀ k, plenumlaw05_CivilInstants.j2 (k + 1) t false = some true := by
    intro k
    simp only [plenumlaw05_CivilInstants.j2]
    rw [if_neg (by decide)]
    unfold civil_Split.f
    by_cases h0 : t < 0
    · rw [if_pos h0]
      simp [h0]
    · rw [if_neg h0]
      by_cases h1 : t > 6311433599
      · rw [if_pos h1]
        simp [h0, h1]
      · rw [if_neg h1]
        rw [tdv _ (by omega : 0 ≤ t), tmd _ (by omega : 0 ≤ t), tdv _ (by omega : 0 ≤ t % 86400), tmd _ (by omega : 0 ≤ t)]
        rw [w64 (x := t / 86400) (by omega) (by omega), w64 (by omega) (by omega)]
        simp only [Option.bind_some]
        rw [if_neg h0, if_neg h1, at_ok (by omega) (by omega) (by omega) (by omega)]
        simp only [Option.bind_some, if_true]
        rw [if_pos (by omega), if_pos (by omega), w64 (by omega) (by omega)]
        have e : t / 86400 * 86400 + t % 86400 / 60 * 60 + t % 60 = t := by omega
        rw [e]
        simp
  unfold plenumlaw05_CivilInstants.f
  rw [awake_f (by omega)]
  simp only [Option.bind_some, if_true]
  by_cases h : 0 ≤ day ∧ day ≤ 73048
  · obtain ⟨h1, h2⟩ := h
    have e : decide (day > 73048) = false := by simp; omega
    by_cases hm : 0 ≤ minute ∧ minute < 1440
    · obtain ⟨h3, h4⟩ := hm
      rw [at_ok h1 h2 h3 h4]
      simp only [Option.bind_some]
      rw [if_neg (by omega), e]
      simp only [plenumlaw05_CivilInstants.j0]
      rw [if_neg (by decide), if_neg (by omega), if_neg (by omega)]
      simp only [plenumlaw05_CivilInstants.j1]
      rw [w64 (x := day * 86400) (by omega) (by omega), w64 (x := 60 * minute) (by omega) (by omega), w64 (by omega) (by omega)]
      have e2 : day * 86400 + minute * 60 = day * 86400 + 60 * minute := by omega
      rw [e2]
      simp only [if_true, bne_self_eq_false]
      exact two _
    · have hA : civil_At.f day minute = some (0, 6) := by
        unfold civil_At.f
        rw [known_f, if_pos ⟨h1, h2⟩]
        simp only [Option.bind_some, if_true]
        by_cases h5 : minute < 0
        · rw [if_pos h5]
        · rw [if_neg h5, if_pos (by omega)]
      rw [hA]
      simp only [Option.bind_some]
      rw [if_neg (by omega), e]
      simp only [plenumlaw05_CivilInstants.j0]
      rw [if_neg (by decide)]
      by_cases h5 : minute < 0
      · rw [if_pos h5]
        simp only [plenumlaw05_CivilInstants.j1]
        simp only [if_true]
        rw [if_neg (by decide)]
        exact two _
      · rw [if_neg h5, if_pos (by omega)]
        simp only [plenumlaw05_CivilInstants.j1]
        simp only [if_true]
        rw [if_neg (by decide)]
        exact two _
  · have hA : civil_At.f day minute = some (0, 1) := by
      unfold civil_At.f
      rw [known_f, if_neg h]
      simp
    rw [hA]
    simp only [Option.bind_some]
    by_cases h0 : day < 0
    · rw [if_pos h0]
      simp only [plenumlaw05_CivilInstants.j0]
      simp only [if_true, plenumlaw05_CivilInstants.j1]
      rw [if_neg (by decide)]
      exact two _
    · rw [if_neg h0]
      have e : decide (day > 73048) = true := by simp; omega
      rw [e]
      simp only [plenumlaw05_CivilInstants.j0]
      simp only [if_true, plenumlaw05_CivilInstants.j1]
      rw [if_neg (by decide)]
      exact two _
end Go.Proofs.YtipkgjbfannniaaDoor.Pure
