/- CivilDates, over numbers alone: for all dates, Leap, DaysIn, Check, Day and Text return the specified results and errors. -/
import Derived.Test.YtipkgjbfannniaaDoorMB
import Derived.Test.YtipkgjbfannniaaDoorMT
import Derived.Test.YtipkgjbfannniaaDoorQx9
set_option linter.unusedVariables false
namespace Go.Proofs.YtipkgjbfannniaaDoor.Pure
open Go.RowKit Go.Proofs.YtipkgjbfannniaaDoor.Q Go.Proofs.YtipkgjbfannniaaDoor.M Go.Proofs.YtipkgjbfannniaaDoorW.PrintWords Go.Proofs.YtipkgjbfannniaaDoorW.PrintLast

theorem rtext_ok {y m d : Int} (hc : chk y m d = 0) : plenumref05_Text.f y m d = some (txt y m d) := by
  obtain ⟨q1, q2, q3, q4, q5, q6⟩ := chk_ok hc
  have db := dim_bd y m
  have s1 : (⟨#[45]⟩ : ByteArray).size = 1 := rfl
  have rtwo : ∀ n, plenumref05_two.f n = civil_two.f n := fun _ => rfl
  unfold plenumref05_Text.f txt
  rw [rtwo, rtwo, rtwo, rtwo]
  rw [tdv _ (by omega : 0 ≤ y), w64 (x := y / 100) (by omega) (by omega), two_f (by omega) (by omega), two_f (by omega) (by omega), two_f (by omega) (by omega), two_f (by omega) (by omega)]
  simp only [Option.bind_some, ByteArray.size_append, twoB_size, s1]
  simp
theorem CivilDates (y m d : Int) (_ : (Lit.int .i64 y).wf = true) (_ : (Lit.int .i64 m).wf = true) (_ : (Lit.int .i64 d).wf = true) : ∃ k, plenumlaw05_CivilDates.f k y m d = some true := by
  refine ⟨600, ?_⟩
  unfold plenumlaw05_CivilDates.f
  rw [awake_f (by omega)]
  simp only [Option.bind_some, if_true]
  rw [leap_f, rleap_f]
  simp only [Option.bind_some, bne_self_eq_false]
  rw [if_neg (by decide), daysIn_f, rdaysIn_f' (by omega)]
  simp only [Option.bind_some, bne_self_eq_false]
  simp only [plenumlaw05_CivilDates.j0]
  rw [if_neg (by decide), rcheck_f (by omega), check_f1 (by omega)]
  simp only [Option.bind_some, if_true]
  by_cases hc : chk y m d = 0
  · obtain ⟨q1, q2, q3, q4, q5, q6⟩ := chk_ok hc
    have db := dim_bd y m
    rw [day_ok (by omega) hc, text_ok (by omega) hc, hc]
    simp only [Option.bind_some, if_true, bne_self_eq_false]
    simp only [plenumlaw05_CivilDates.j1]
    rw [if_neg (by decide)]
    simp only [if_true]
    rw [rday_f (by omega) q1 (by omega) q5 q6 (by omega) (by omega)]
    simp only [Option.bind_some, if_true]
    rw [rtext_ok hc]
    simp
  · rw [day_no (by omega) hc, text_no (by omega) hc]
    simp only [Option.bind_some, if_true, bne_self_eq_false]
    simp only [plenumlaw05_CivilDates.j1]
    rw [if_neg (by decide), if_neg hc]
    simp only [if_true]
    rw [ByteArray.toList_eq]
    rfl
end Go.Proofs.YtipkgjbfannniaaDoor.Pure
