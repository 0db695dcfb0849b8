/- CollectChecks answers true: the plain proof. -/
import Derived.Test.YteclemahimldeaaKPT
import Derived.Test.YteclemahimldeaaKx10
set_option linter.unusedVariables false
set_option linter.unusedSimpArgs false
namespace Go.Proofs.Yteclemahimldeaa.PTK
open Go.RowKit Go.Proofs.Yteclemahimldeaa.K Go.Proofs.YteclemahimldeaaW.PrintWords Go.Proofs.YteclemahimldeaaW.PrintLast Go.Proofs.YteclemahimldeaaW.PrintMore

theorem CollectChecks (l : List S42) (k : Nat) (hk : 2000 ≤ k) : plenumlaw42_CollectChecks.f k l = some true := by
  unfold plenumlaw42_CollectChecks.f
  rw [awake_f (by omega)]
  simp only [Option.bind_some, if_true]
  obtain ⟨b, hb, hb2⟩ := small_f l k (by omega)
  rw [hb]
  simp only [Option.bind_some]
  cases b with
  | false => rw [if_neg (by decide)]
  | true =>
    have hl := hb2 rfl
    rw [if_pos rfl, rcheck_f (by omega) (by omega), check_f (by omega) (by omega)]
    simp only [Option.bind_some, if_true]
    by_cases c : ck l = 0
    · rw [if_pos c]
    · rw [if_neg c]
      unfold collect_New.f
      simp only [Option.bind_some]
      have htr : takeR [] l = ([], 0, ck l) := by
        unfold takeR
        rw [if_neg c]
      rw [ctake_f (by omega) (by simp) (fun p hp => by cases hp) (by simp; omega), htr]
      simp only [Option.bind_some]
      unfold collect_Merge.f collect_Between.f collect_At.f
      rw [check_f (by omega) (by omega)]
      simp only [Option.bind_some]
      rw [if_neg c, if_neg c, if_neg c]
      simp only [Option.bind_some, if_true]
      rw [if_pos (by simp), if_pos (by simp), from_f [] (by simp) (fun p hp => by cases hp)]
      simp only [Option.bind_some]
      rw [if_pos (by rfl), records_f (by simp)]
      simp
      rfl
end Go.Proofs.Yteclemahimldeaa.PTK
